/- The law LexerSplits, walked: it returns true. -/
import Derived.Test.YtiopcdbginnflaaGreatDoorLzSplit
import Derived.Test.YtiopcdbginnflaaGreatDoorLzFault
import Derived.Laws.StructEq
namespace Go.Proofs.YtiopcdbginnflaaGreatDoor
open Go.RowKit
set_option linter.unusedVariables false
set_option linter.unusedSimpArgs false

/-- what the walk is told of the package-level variables -/
structure FVars (A : Nat → Addr) (w : World) : Prop where
  ne : NE A w
  vars : Vars A w
  ety : ETy w
theorem FVars.below {A : Nat → Addr} {w w' : World} (h : FVars A w) (hb : Below w.heap.size w w') : FVars A w' := ⟨h.ne.keep hb, h.vars.below hb, h.ety.below hb⟩

theorem token_badn {l : Lx.Bs} {m : Nat} (h : Lx.token l = .bad m) : m = 9 ∨ m = 1 ∨ m = 3 := by
  unfold Lx.token at h
  cases l with
  | nil => cases h; exact .inl rfl
  | cons b r =>
    simp only at h
    split at h
    · split at h
      · split at h
        · rename_i q hq
          cases h
          exact (number_bad hq).imp id .inl
        · cases h
      · split at h
        · cases h; exact .inr (.inr rfl)
        · cases h
    · split at h
      · split at h
        · cases h; exact .inl rfl
        · split at h
          · cases h; exact .inl rfl
          · cases h
      · split at h
        · cases h
        · cases h; exact .inl rfl
theorem splitN_badn : ∀ (n : Nat) (l : Lx.Bs) (p q : Nat × Nat) (m : Nat), l.length ≤ n → Lx.splitN l p = .bad m q → m = 9 ∨ m = 1 ∨ m = 3
  | n, l, p, q, m, hn, h => by
    rw [Lx.splitN] at h
    split at h
    · cases h; exact .inl rfl
    · split at h
      · cases h
      · split at h
        · rename_i e he
          cases h
          exact token_badn he
        · rename_i k t x j hj
          have hp := Lx.token_pos hj
          rw [List.length_drop] at hp
          cases n with
          | zero => omega
          | succ n =>
            cases hs : Lx.splitN ((l.drop (Lx.gapN l).1).drop j) (Lx.adv p (l.take ((Lx.gapN l).1 + j))) with
            | ok us => rw [hs] at h; cases h
            | bad e r =>
              rw [hs] at h
              cases h
              exact splitN_badn n _ _ _ _ (by rw [List.length_drop, List.length_drop]; omega) hs
/-- what both answer -/
def outOf (s : ByteArray) : Lx.Out := if 4000 < s.size then .bad 3 (0, 0) else Lx.splitN s.data.toList (1, 1)
theorem outOf_bad {s : ByteArray} {m : Nat} {q : Nat × Nat} (h : outOf s = .bad m q) : m = 9 ∨ m = 1 ∨ m = 3 := by
  unfold outOf at h
  split at h
  · cases h; exact .inr (.inr rfl)
  · exact splitN_badn _ _ _ _ _ (Nat.le_refl _) h
theorem split_out (A : Nat → Addr) (s : ByteArray) (hm : s.size ≤ maxLen) (w : World) (hv : Vars A w) : Calls Tryz.prog 5 #[.string s] w (SplitPost A w (outOf s)) := by
  unfold outOf
  split
  · rename_i h; exact split_long A s w hv h hm
  · rename_i h; exact split_any A s w hv h
theorem rsplit_out (s : ByteArray) (hm : s.size ≤ maxLen) (w : World) : Calls Tryz.prog 6 #[.string s] w (RSplitPost w (outOf s)) := by
  unfold outOf
  split
  · rename_i h; exact rsplit_long s w h hm
  · rename_i h; exact rsplit_any s w h
theorem sizeRTok (w : World) : (Go.sizeOf (Tryz.prog.elem 28)).run Tryz.prog w = .ok 5 w := by kernel_rfl
theorem neqTok (k x a b : Int) (t : ByteArray) (w : World) : (binOp .neq 35 (.agg #[.int .i64 k, .string t, .int .i64 x, .int .i64 a, .int .i64 b]) (.agg #[.int .i64 k, .string t, .int .i64 x, .int .i64 a, .int .i64 b])).run Tryz.prog w = .ok (.bool false) w := by
  have u3 := Tryz.underlying3
  have a3 := Tryz.isAgg3
  have z3 := Tryz.sizeOf3
  have u9 := Tryz.underlying9
  have a9 := Tryz.isAgg9
  have z9 := Tryz.sizeOf9
  have hS : Tryz.prog.underlying 35 = some (.struct (Tryz.prog.fieldsOf 35)) := by kernel_rfl
  have hp : Tryz.prog.stoodInHeld 35 = false := by kernel_rfl
  rw [run_neq_struct, show (10000 : Nat) = 9999 + 1 from rfl, run_equalIn_agg w 9999 35 _ _ hS hp]
  simp only [Program.fieldsOf, Tryz.underlying35]
  go_simp

set_option maxHeartbeats 4000000 in
set_option maxRecDepth 100000 in
theorem lexerSplits_walk (w : World) (hL : ∃ A, FVars A w) (s : ByteArray) (hs : s.size ≤ maxLen) : Calls Tryz.prog 3 #[.string s] w fun e w' => e = .returned (.bool true) ∧ Below w.heap.size w w' := by
  obtain ⟨A, hv⟩ := hL
  have HA := Lib.hid (alive07 A w hv.vars)
  have HS := Lib.hid (fun w0 (h : FVars A w0) => split_out A s hs w0 h.vars)
  have HR := Lib.hid (fun w0 => rsplit_out s hs w0)
  have HI := Lib.hid (fun w0 => ident_any s w0 hs)
  have HJ := Lib.hid (fun w0 => rident_any s w0 hs)
  have HN := Lib.hid (fun w0 => fault_nil w0)
  have Hv := Lib.hid hv
  clear hv
  unfold maxLen at hs
  generalize Lx.ident s.data.toList = idb at *
  by_cases hbig : 5000 < s.size
  · have hz : (5000 : Int) < (s.size : Int) := by omega
    clear hbig
    go_enter Tryz.func3, Tryz.ntmps3
    go_wp2_with fail
    refine HA.out.mono ?_
    rintro e w1 ⟨rfl, hb1⟩
    go_wp2_with fail
    go_ret
    exact ⟨rfl, hb1⟩
  have hz : (s.size : Int) ≤ 5000 := by omega
  cases hsp : outOf s with
  | bad n p =>
    have hn := outOf_bad hsp
    obtain ⟨m, rfl⟩ : ∃ m, n = m + 1 := ⟨n - 1, by omega⟩
    rw [hsp] at HS HR
    have HF := Lib.hid (fun w0 g (h : FVars A w0) (hB : Blk w0 g [.int .i64 (p.1 : Nat), .int .i64 (p.2 : Nat), errV (A m)]) => fault_at A w0 h.ne h.ety g m p.1 p.2 (by omega) hB)
    have em : ((m + 1 : Nat) : Int) = (m : Int) + 1 := by push_cast; rfl
    rw [em] at HF
    clear em
    clear hsp
    go_enter Tryz.func3, Tryz.ntmps3
    go_wp2_with fail
    refine HA.out.mono ?_
    rintro e w1 ⟨rfl, hb1⟩
    have Hv1 := Lib.hid (Hv.out.below hb1)
    go_wp2_with fail
    refine (HS.out _ Hv1.out).mono ?_
    rintro e w2 ⟨g, rfl, hB, hg, hb2⟩
    have Hb2 := Lib.hid (hb1.trans (hb2.mono hb1.size))
    have HB2 := Lib.hid hB
    clear hB hg hb2 hb1
    go_wp2_with fail
    refine (HR.out _).mono ?_
    rintro e w3 ⟨rfl, hb3⟩
    have Hb3 := Lib.hid (Hb2.out.trans (hb3.mono Hb2.out.size))
    have HF3 := Lib.hid (HF.out w3 g (Hv.out.below Hb3.out) (HB2.out.below hb3 HB2.out.lt))
    clear hb3
    go_wp2_with (first
      | (go_at_call 7; (with_reducible refine HF3.out.mono ?_); rintro e w4 ⟨rfl, hb4⟩)
      | (go_at_call 8; (with_reducible refine (HI.out _).mono ?_); rintro e w5 ⟨rfl, hb5⟩)
      | (go_at_call 9; (with_reducible refine (HJ.out _).mono ?_); rintro e w6 ⟨rfl, rfl⟩))
    have Hb5 := Lib.hid (Hb3.out.trans ((hb4.trans (hb5.mono hb4.size)).mono Hb3.out.size))
    clear hb4 hb5
    refine wp_loop_rounds 1 ?_
    rw [rounds_succ]
    go_wp2_with fail
    go_ret
    exact ⟨rfl, Hb5.out⟩
  | ok ts =>
    rw [hsp] at HS HR
    clear hsp
    obtain ⟨n, hn⟩ : ∃ n, n = ts.length := ⟨_, rfl⟩
    have Hn := Lib.hid hn
    clear hn
    go_enter Tryz.func3, Tryz.ntmps3
    go_wp2_with fail
    refine HA.out.mono ?_
    rintro e w1 ⟨rfl, hb1⟩
    have Hv1 := Lib.hid (Hv.out.below hb1)
    go_wp2_with fail
    refine (HS.out _ Hv1.out).mono ?_
    rintro e w2 ⟨v, rfl, hF, hb2⟩
    have Hb2 := Lib.hid (hb1.trans (hb2.mono hb1.size))
    obtain ⟨ad, cap, rfl, hlc, hcm, _⟩ := hF.len
    rw [← Hn.out] at hF hlc ⊢
    have hnb : n ≤ 9223372036854775807 := by unfold maxLen at hcm; omega
    have HFl := Lib.hid hF
    clear hF hb1 hb2
    go_wp2_with fail
    refine (HR.out _).mono ?_
    rintro e w3 ⟨v3, rfl, hF3, hb3⟩
    have Hb23 := Lib.hid hb3
    have Hb3 := Lib.hid (Hb2.out.trans (hb3.mono Hb2.out.size))
    obtain ⟨ad3, cap3, rfl, hlc3, hcm3, _⟩ := hF3.len
    rw [← Hn.out] at hF3 hlc3 ⊢
    have HFr := Lib.hid hF3
    clear hF3 hb3
    go_wp2_with (first
      | (go_at_call 7; (with_reducible refine (HN.out _).mono ?_); rintro e w4 ⟨rfl, hb4⟩)
      | (go_at_call 8; (with_reducible refine (HI.out _).mono ?_); rintro e w5 ⟨rfl, hb5⟩)
      | (go_at_call 9; (with_reducible refine (HJ.out _).mono ?_); rintro e w6 ⟨rfl, rfl⟩))
    have Hb35 := Lib.hid (hb4.trans (hb5.mono hb4.size))
    have Hb5 := Lib.hid (Hb3.out.trans (Hb35.out.mono Hb3.out.size))
    clear hb4 hb5
    go_loopw [50] (fun i wr => ∃ j : Nat, j ≤ n ∧ i = .int .i64 j ∧ Hid (Below w5.heap.size w5 wr)) (fun i _ => n - (intOf i).toNat)
    case atStart => exact ⟨0, Nat.zero_le _, rfl, Lib.hid (Below.refl _ _)⟩
    case round =>
      obtain ⟨j, hj, rfl, HW⟩ := hrel
      by_cases hjt : j < n
      · have hjs : j < ts.length := by have := Hn.out; omega
        have hFl : FlatV tC (frag wr) (.slice ad ts.length cap) ts := by
          have h := HFl.out.mono (below_le (Hb23.out.trans ((Hb35.out.trans (HW.out.mono Hb35.out.size)).mono Hb23.out.size)))
          rw [← Hn.out]; exact h
        have hFr : FlatV tC (frag wr) (.slice ad3 ts.length cap3) ts := by
          have h := HFr.out.mono (below_le (Hb35.out.trans (HW.out.mono Hb35.out.size)))
          rw [← Hn.out]; exact h
        obtain ⟨b, o, hbl, hidx, hcell⟩ := FlatV.at hFl tC_len (by decide) (i := j) hjs Tryz.underlying23 sizeTok
        obtain ⟨b2, o2, hbl2, hidx2, hcell2⟩ := FlatV.at hFr tC_len (by decide) (i := j) hjs Tryz.underlying28 sizeRTok
        rw [← Hn.out] at hidx hidx2
        have r0 : wr.rangeAt b o (tC ts[j]) := fun j u h => hcell j u h
        have d0 : wr.cell? ⟨b2, o2, none⟩ = some (.int .i64 ts[j].kind) := by have := hcell2 0 _ rfl; rw [Nat.add_zero] at this; exact this
        have d1 : wr.cell? ⟨b2, o2 + 1, none⟩ = some (.string (toB ts[j].text)) := hcell2 1 _ rfl
        have d2 : wr.cell? ⟨b2, o2 + 2, none⟩ = some (.int .i64 ts[j].num) := hcell2 2 _ rfl
        have d3 : wr.cell? ⟨b2, o2 + 3, none⟩ = some (.int .i64 ts[j].line) := hcell2 3 _ rfl
        have d4 : wr.cell? ⟨b2, o2 + 4, none⟩ = some (.int .i64 ts[j].col) := hcell2 4 _ rfl
        generalize ts[j] = t at *
        clear hcell hcell2 hFl hFr hbl
        go_upto_region 12 with (first
          | (refine wpList_load_seg rfl 34 _ rfl _ _ rfl _ _ r0 Tryz.underlying34 rfl infoT ?_)
          | (refine wpList_alloc_lay rfl 34 rfl zT zeroT ?_; (intro w6 g3 hg3 hB3 hb3; clear r0))
          | (refine wpList_store_all rfl 34 _ _ rfl g3 _ rfl rfl zT hB3 infoT rfl ?_ ?_; (· exact one_tok _ _ _ _ _); (intro w7 hB7 hgr; have hb7 := Below.grown hb3 hgr hb3.size (fun _ e => by cases e; exact hg3); clear hgr hB3 hb3)))
        have c0 : w7.cell? ⟨g3, 0, none⟩ = some (.int .i64 t.kind) := hB7.cell (o := 0) rfl
        have c1 : w7.cell? ⟨g3, 1, none⟩ = some (.string (toB t.text)) := hB7.cell (o := 1) rfl
        have c2 : w7.cell? ⟨g3, 2, none⟩ = some (.int .i64 t.num) := hB7.cell (o := 2) rfl
        have c3 : w7.cell? ⟨g3, 3, none⟩ = some (.int .i64 t.line) := hB7.cell (o := 3) rfl
        have c4 : w7.cell? ⟨g3, 4, none⟩ = some (.int .i64 t.col) := hB7.cell (o := 4) rfl
        replace d0 := (hb7.cell (p := ⟨b2, o2, none⟩) hbl2).trans d0
        replace d1 := (hb7.cell (p := ⟨b2, o2 + 1, none⟩) hbl2).trans d1
        replace d2 := (hb7.cell (p := ⟨b2, o2 + 2, none⟩) hbl2).trans d2
        replace d3 := (hb7.cell (p := ⟨b2, o2 + 3, none⟩) hbl2).trans d3
        replace d4 := (hb7.cell (p := ⟨b2, o2 + 4, none⟩) hbl2).trans d4
        have HW7 := Lib.hid (HW.out.trans (hb7.mono HW.out.size))
        have hneq := neqTok t.kind t.num t.line t.col (toB t.text)
        have hG : Tryz.prog.eqGuardType Tryz.prog.depth 35 = false := by kernel_rfl
        clear hB7 hb7 hg3 hbl2 hidx
        go_simp
        go_quiet (fail)
        have HW8 : Hid (Below w5.heap.size w5 (w7.drewN nq)) := Lib.hid (Below.drewN HW7.out _)
        go_wp2_with fail
        go_roundw
        case rel => exact ⟨j + 1, by omega, by go_num, HW8.out⟩
        case measure => simp [intOf]; omega
      · obtain rfl : j = n := by omega
        have hend := Hb5.out.trans (HW.out.mono Hb5.out.size)
        go_wp2_with fail
        go_ret
        exact ⟨rfl, hend⟩

end Go.Proofs.YtiopcdbginnflaaGreatDoor
