/- myers.Tidy, walked. -/
import Derived.Test.YtlilamlolnkboaaMyTidyPlain
namespace Go.Proofs.Ytlilamlolnkboaa
open Go.RowKit Go.WideShapes
set_option linter.unusedVariables false

def TRel (w : World) (rs : List (Nat × Nat)) (lv out drops puts i : Value) (wr : World) : Prop :=
  FlatV runC (fragE wr [out.ownBlock]) lv (rs ++ [(1, 1048576)]) ∧ Below w.heap.size w wr ∧
  ((∃ k o d p, k ≤ rs.length ∧ i = .int .i64 (k : Nat) ∧ drops = .int .i64 (d : Nat) ∧ puts = .int .i64 (p : Nat) ∧ wr.ownsRow w.heap.size 42 2 out o.length (o.flatMap runC) ∧ TInv rs o k d p) ∨
   (∃ s, i = .int .i64 ((rs.length : Int) + 1) ∧ wr.ownsRow w.heap.size 42 2 out (addR s 1 1048576).length ((addR s 1 1048576).flatMap runC) ∧ Good s ∧ expand s = tidyK 0 0 (expand rs)))

def TidyPost (w : World) (rs : List (Nat × Nat)) (e : Ending) (w' : World) : Prop :=
  ∃ v s, e = .returned v ∧ FlatV runC (frag w') v s ∧ Good s ∧ expand s = tidyK 0 0 (expand rs) ∧ Below w.heap.size w w'

set_option maxRecDepth 100000 in
set_option maxHeartbeats 8000000 in
theorem tidy_any (v : Value) (rs : List (Nat × Nat)) (w : World) (hv : FlatV runC (frag w) v rs) (hg : Good rs) (hl : (expand rs).length < 100000) :
    Calls Try.prog 11 #[v] w (TidyPost w rs) := by
  have hlen := (expand_len_ge hg).1
  obtain ⟨a, cap, rfl, hc1, hc2, hc0⟩ := hv.len
  have Hc := Lib.hid (clone_any _ rs w hv (by omega))
  have Hg := Lib.hid hg
  clear hv hg hc0 hc1 hc2
  generalize hn : rs.length = n at *
  have Hn := Lib.hid hn; clear hn
  go_enter Try.func11, Try.ntmps11
  go_wp2_with fail
  refine Hc.out.mono ?_
  rintro e w1 ⟨v1, rfl, hown, hb1⟩
  have Hown := Lib.hid hown; have Hb1 := Lib.hid hb1
  have hs1 := hb1.size
  clear hown hb1 Hc
  go_wp2_with (at_builtin; refine wpList_append_at T_runs rfl _ _ rfl #[_, _] rfl Hown.out rfl rfl (by simp [Value.oneCell']) (by omega) hs1 ?_)
  intro v2 w2 hown2 hg2 hat2
  have hb2 : Below w.heap.size w w2 := Below.of_grown Hb1.out Hown.out hg2 hs1 (Nat.le_refl _)
  have hsent : rs.flatMap runC ++ [Value.int .i64 1, .int .i64 1048576] = (rs ++ [(1, 1048576)]).flatMap runC := by rw [List.flatMap_append]; rfl
  obtain ⟨g2, c2, rfl⟩ : ∃ g cap, v2 = .slice (some ⟨g, 0, none⟩) (n + 1) cap := by
    rcases hown2.2 with ⟨_, h⟩ | ⟨g, cap, cur, h, _⟩
    · omega
    · exact ⟨g, cap, h⟩
  have hf2 : FlatV runC (fragE w2 []) (.slice (some ⟨g2, 0, none⟩) (n + 1) c2) (rs ++ [(1, 1048576)]) := by
    refine FlatV.of_owns (s := 2) (n := n + 1) (base := w.heap.size) (e := 42) ?_ (by simp [Hn.out]) (.inr (by simp))
    rw [← hsent]; exact hown2
  have Hf2 := Lib.hid hf2; have Hb2 := Lib.hid hb2
  clear hown2 hg2 hat2 hsent hf2 hb2 Hown Hb1
  go_wp2_with fail
  go_loopw [3, 4, 5, 14] (TRel w rs (.slice (some ⟨g2, 0, none⟩) (n + 1) c2)) (fun _ _ _ i _ => n + 1 - (intOf i).toNat)
  case atStart =>
    refine ⟨Hf2.out.mono (subE _ (by simp [Value.ownBlock])), Hb2.out, .inl ⟨0, [], 0, 0, Nat.zero_le _, rfl, rfl, rfl, World.ownsRow_nil _ _ _ _, TInv.start rs⟩⟩
  case round =>
    obtain ⟨hF, hbel, hA | hB⟩ := hrel
    · obtain ⟨k, o, d, p, hk, rfl, rfl, rfl, hown, hinv⟩ := hA
      rw [Hn.out] at hk
      have hbd := hinv.bound
      obtain ⟨b0, o0, hb0, hidx, hcell⟩ := FlatV.at (hF.mono (fragE_le _ _)) runC_len (by decide) (i := k) (by simp [Hn.out]; omega) Try.underlying37 sizeRun
      have HF := Lib.hid hF; have Hown := Lib.hid hown; have Hinv := Lib.hid hinv
      have hsz := hbel.size
      have hol := (expand_len_ge hinv.1).1
      have Hro := Lib.hid (hinv.1.runs (m := 10000000) (by omega))
      clear hF hown hinv
      by_cases hlt : k < n
      · have hks : k < rs.length := by rw [Hn.out]; exact hlt
        obtain ⟨⟨kk, c⟩, hrs⟩ : ∃ r, rs[k] = r := ⟨_, rfl⟩
        have hgk := Hg.out rs[k] (List.getElem_mem _)
        have hexp := (expand_len_ge Hg.out).2 rs[k] (List.getElem_mem _)
        rw [hrs] at hgk hexp
        simp only at hgk hexp
        have hcell0 := hcell 0 (.int .i64 kk) (by simp [List.getElem_append_left hks, hrs, runC])
        have hcell1 := hcell 1 (.int .i64 c) (by simp [List.getElem_append_left hks, hrs, runC])
        have Hrs := Lib.hid hrs
        rw [Nat.add_zero] at hcell0
        clear hcell hrs
        have Hr := Lib.hid (fun w => right_any kk c w hgk.1 hgk.2.1 hgk.2.2 (by omega))
        obtain ⟨hk1, hk3, hc1⟩ := hgk
        have hkk : kk = 1 ∨ kk = 2 ∨ kk = 3 := by omega
        rcases hkk with rfl | rfl | rfl
        · have Hr1 : ∀ w : World, Calls Try.prog 18 #[.agg #[.int .i64 1, .int .i64 c]] w fun e w' => e = .returned (.bool true) ∧ Below w.heap.size w w' := Hr.out
          rw [show ((1 : Nat) : Int) = 1 from rfl] at hcell0
          have HR := Lib.hid Hr1; clear Hr1
          go_wp2_with fail
          refine (HR.out _).mono ?_
          rintro e w3 ⟨rfl, hb3⟩
          obtain ⟨hcA, hcB⟩ := struct2_cells hb3
          have hb3' : Below w.heap.size w w3 := (hbel.alloc hsz _).trans (hb3.mono (by simp; omega))
          have Hown3 := Lib.hid (owns_below (Hown.out.alloc _) hb3)
          have Hfl3 := Lib.hid ((allocE wr [u3.ownBlock] (.cells #[.int .i64 1, .int .i64 c] 42)).trans (belowE (E' := [u3.ownBlock]) hb3 (fun _ h => .inl h)))
          have hsz3 := hb3'.size
          have hne3 := own_ne Hown.out (Nat.le_refl _)
          have hB3 : wr.heap.size < w3.heap.size := by have := hb3.size; simp at this; omega
          go_wp2_with fail
          refine (add_any w.heap.size u3 o 2 d w3 Hown3.out hsz3 (by omega) Hro.out (by omega)).mono ?_
          rintro e w4 ⟨v4, rfl, hown4, hg4, hat4⟩
          obtain ⟨hb4, hfl4⟩ := own_carry hb3' Hown3.out hg4 hat4
          have Hown4 := Lib.hid hown4; have Hfl4 := Lib.hid (Hfl3.out.trans hfl4)
          have hsz4 := hb4.size
          have hcB4 := (grown_cell (o := 1) hg4 hB3 hne3).trans hcB
          have hne4 := ne_carry hne3 hB3 hat4
          have hB4 := Nat.lt_of_lt_of_le hB3 hg4.size
          have Hro4 := Lib.hid ((Hinv.out.1.add (k := 2) (c := d) (by omega) (by omega)).runs (m := 10000000) (by rw [expand_add]; simp; omega))
          have hol4 := addR_len o 2 d
          clear hown4 hfl4 hg4 hat4
          go_wp2_with fail
          refine (add_any w.heap.size v4 (addR o 2 d) 3 p w4 Hown4.out hsz4 (by omega) Hro4.out (by omega)).mono ?_
          rintro e w5 ⟨v5, rfl, hown5, hg5, hat5⟩
          obtain ⟨hb5, hfl5⟩ := own_carry hb4 Hown4.out hg5 hat5
          have Hown5 := Lib.hid hown5; have Hfl5 := Lib.hid (Hfl4.out.trans hfl5)
          have hsz5 := hb5.size
          have hcB5 := (grown_cell (o := 1) hg5 hB4 hne4).trans hcB4
          have Hro5 := Lib.hid (((Hinv.out.1.add (k := 2) (c := d) (by omega) (by omega)).add (k := 3) (c := p) (by omega) (by omega)).runs (m := 10000000) (by rw [expand_add, expand_add]; simp; omega))
          have hol5 := addR_len (addR o 2 d) 3 p
          clear hown5 hfl5 hg5 hat5 Hfl4 Hfl3
          go_wp2_with fail
          refine (add_any w.heap.size v5 (addR (addR o 2 d) 3 p) 1 c w5 Hown5.out hsz5 (by omega) Hro5.out (by omega)).mono ?_
          rintro e w6 ⟨v6, rfl, hown6, hg6, hat6⟩
          obtain ⟨hb6, hfl6⟩ := own_carry hb5 Hown5.out hg6 hat6
          have Hown6 := Lib.hid hown6; have Hfl6 := Lib.hid (Hfl5.out.trans hfl6)
          clear hown6 hfl6 hg6 hat6
          go_wp2_with fail
          go_roundw
          case rel =>
            refine ⟨HF.out.mono Hfl6.out, hb6, .inl ⟨k + 1, _, 0, 0, by omega, by simp, rfl, rfl, Hown6.out, Hinv.out.keep hks Hrs.out hc1⟩⟩
          case measure => simp [intOf]; omega
        · have Hr1 : ∀ w : World, Calls Try.prog 18 #[.agg #[.int .i64 2, .int .i64 c]] w fun e w' => e = .returned (.bool true) ∧ Below w.heap.size w w' := Hr.out
          rw [show ((2 : Nat) : Int) = 2 from rfl] at hcell0
          have HR := Lib.hid Hr1; clear Hr1
          go_wp2_with fail
          refine (HR.out _).mono ?_
          rintro e w3 ⟨rfl, hb3⟩
          obtain ⟨hcA, hcB⟩ := struct2_cells hb3
          have hb3' : Below w.heap.size w w3 := (hbel.alloc hsz _).trans (hb3.mono (by simp; omega))
          have Hown3 := Lib.hid (owns_below (Hown.out.alloc _) hb3)
          have Hfl3 := Lib.hid ((allocE wr [u3.ownBlock] (.cells #[.int .i64 2, .int .i64 c] 42)).trans (belowE (E' := [u3.ownBlock]) hb3 (fun _ h => .inl h)))
          go_wp2_with fail
          go_roundw
          case rel =>
            refine ⟨HF.out.mono Hfl3.out, hb3', .inl ⟨k + 1, o, d + c, p, by omega, by simp, by simp, rfl, Hown3.out, Hinv.out.drop hks Hrs.out⟩⟩
          case measure => simp [intOf]; omega
        · have Hr1 : ∀ w : World, Calls Try.prog 18 #[.agg #[.int .i64 3, .int .i64 c]] w fun e w' => e = .returned (.bool true) ∧ Below w.heap.size w w' := Hr.out
          rw [show ((3 : Nat) : Int) = 3 from rfl] at hcell0
          have HR := Lib.hid Hr1; clear Hr1
          go_wp2_with fail
          refine (HR.out _).mono ?_
          rintro e w3 ⟨rfl, hb3⟩
          obtain ⟨hcA, hcB⟩ := struct2_cells hb3
          have hb3' : Below w.heap.size w w3 := (hbel.alloc hsz _).trans (hb3.mono (by simp; omega))
          have Hown3 := Lib.hid (owns_below (Hown.out.alloc _) hb3)
          have Hfl3 := Lib.hid ((allocE wr [u3.ownBlock] (.cells #[.int .i64 3, .int .i64 c] 42)).trans (belowE (E' := [u3.ownBlock]) hb3 (fun _ h => .inl h)))
          go_wp2_with fail
          go_roundw
          case rel =>
            refine ⟨HF.out.mono Hfl3.out, hb3', .inl ⟨k + 1, o, d, p + c, by omega, by simp, rfl, by simp, Hown3.out, Hinv.out.put hks Hrs.out⟩⟩
          case measure => simp [intOf]; omega
      · obtain rfl : k = n := by omega
        have hcell0 := hcell 0 (.int .i64 1) (by rw [List.getElem_append_right (by rw [Hn.out]; omega)]; simp [runC])
        have hcell1 := hcell 1 (.int .i64 1048576) (by rw [List.getElem_append_right (by rw [Hn.out]; omega)]; simp [runC])
        rw [Nat.add_zero] at hcell0
        clear hcell
        have HR : Hid (∀ w : World, Calls Try.prog 18 #[.agg #[.int .i64 1, .int .i64 1048576]] w fun e w' => e = .returned (.bool true) ∧ Below w.heap.size w w') := fun w => right_any 1 1048576 w (by omega) (by omega) (by omega) (by omega)
        have Hlast : Hid (TInv rs o rs.length d p) := by show TInv _ _ _ _ _; rw [Hn.out]; exact Hinv.out
        clear hk
        go_wp2_with fail
        refine (HR.out _).mono ?_
        rintro e w3 ⟨rfl, hb3⟩
        obtain ⟨hcA, hcB⟩ := struct2_cells hb3
        have hb3' : Below w.heap.size w w3 := (hbel.alloc hsz _).trans (hb3.mono (by simp; omega))
        have Hown3 := Lib.hid (owns_below (Hown.out.alloc _) hb3)
        have Hfl3 := Lib.hid ((allocE wr [u3.ownBlock] (.cells #[.int .i64 1, .int .i64 1048576] 42)).trans (belowE (E' := [u3.ownBlock]) hb3 (fun _ h => .inl h)))
        have hsz3 := hb3'.size
        have hne3 := own_ne Hown.out (Nat.le_refl _)
        have hB3 : wr.heap.size < w3.heap.size := by have := hb3.size; simp at this; omega
        go_wp2_with fail
        refine (add_any w.heap.size u3 o 2 d w3 Hown3.out hsz3 (by omega) Hro.out (by omega)).mono ?_
        rintro e w4 ⟨v4, rfl, hown4, hg4, hat4⟩
        obtain ⟨hb4, hfl4⟩ := own_carry hb3' Hown3.out hg4 hat4
        have Hown4 := Lib.hid hown4; have Hfl4 := Lib.hid (Hfl3.out.trans hfl4)
        have hsz4 := hb4.size
        have hcB4 := (grown_cell (o := 1) hg4 hB3 hne3).trans hcB
        have hne4 := ne_carry hne3 hB3 hat4
        have hB4 := Nat.lt_of_lt_of_le hB3 hg4.size
        have Hro4 := Lib.hid ((Hinv.out.1.add (k := 2) (c := d) (by omega) (by omega)).runs (m := 10000000) (by rw [expand_add]; simp; omega))
        have hol4 := addR_len o 2 d
        clear hown4 hfl4 hg4 hat4
        go_wp2_with fail
        refine (add_any w.heap.size v4 (addR o 2 d) 3 p w4 Hown4.out hsz4 (by omega) Hro4.out (by omega)).mono ?_
        rintro e w5 ⟨v5, rfl, hown5, hg5, hat5⟩
        obtain ⟨hb5, hfl5⟩ := own_carry hb4 Hown4.out hg5 hat5
        have Hown5 := Lib.hid hown5; have Hfl5 := Lib.hid (Hfl4.out.trans hfl5)
        have hsz5 := hb5.size
        have hcB5 := (grown_cell (o := 1) hg5 hB4 hne4).trans hcB4
        have Hro5 := Lib.hid (((Hinv.out.1.add (k := 2) (c := d) (by omega) (by omega)).add (k := 3) (c := p) (by omega) (by omega)).runs (m := 10000000) (by rw [expand_add, expand_add]; simp; omega))
        have hol5 := addR_len (addR o 2 d) 3 p
        clear hown5 hfl5 hg5 hat5 Hfl4 Hfl3
        go_wp2_with fail
        refine (add_any w.heap.size v5 (addR (addR o 2 d) 3 p) 1 1048576 w5 Hown5.out hsz5 (by omega) Hro5.out (by omega)).mono ?_
        rintro e w6 ⟨v6, rfl, hown6, hg6, hat6⟩
        obtain ⟨hb6, hfl6⟩ := own_carry hb5 Hown5.out hg6 hat6
        have Hown6 := Lib.hid hown6; have Hfl6 := Lib.hid (Hfl5.out.trans hfl6)
        clear hown6 hfl6 hg6 hat6
        go_wp2_with fail
        go_roundw
        case rel =>
          refine ⟨HF.out.mono Hfl6.out, hb6, .inr ⟨addR (addR o 2 d) 3 p, by rw [Hn.out], Hown6.out, Hlast.out.last.1, Hlast.out.last.2⟩⟩
        case measure => simp [intOf]
    · obtain ⟨s, rfl, hown, hgs, hes⟩ := hB
      rw [Hn.out]
      have Hown := Lib.hid hown; have Hes := Lib.hid hes; have Hgs := Lib.hid hgs
      have hel : (expand s).length ≤ (expand rs).length := by
        rw [hes]
        have := (tidyK_len (expand rs) 0 0).1
        omega
      have hsl := (expand_len_ge hgs).1
      have Hro := Lib.hid (hgs.runs (m := 10000000) (by omega))
      clear hown hes hgs hF
      go_wp2_with fail
      refine (trim_any w.heap.size u3 s wr Hown.out (by omega) Hro.out).mono ?_
      rintro e w4 ⟨v4, rfl, hown4, hg4, hat4⟩
      obtain ⟨hb4, _⟩ := own_carry hbel Hown.out hg4 hat4
      go_wp2_with fail
      go_ret
      have := FlatV.of_owns (E := []) hown4 rfl (.inr (by simp))
      rw [fragE_nil] at this
      exact ⟨_, s, rfl, this, Hgs.out, Hes.out, hb4⟩

end Go.Proofs.Ytlilamlolnkboaa
