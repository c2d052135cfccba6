/- The law LexerFaults, walked: it returns true. -/
import Derived.Test.YtiopcdbginnflaaDoorLxFault
import Derived.Test.YtiopcdbginnflaaDoorLxIdent
namespace Go.Proofs.YtiopcdbginnflaaDoor
open Go.RowKit
set_option linter.unusedVariables false
set_option linter.unusedSimpArgs false

/-- what the walk is told of the package-level variables -/
structure FVars (A : Nat → Addr) (w : World) : Prop where
  ne : NE A w
  vars : Vars A w
  ety : ETy w
  pow : Pow10 w
theorem FVars.below {A : Nat → Addr} {w w' : World} (h : FVars A w) (hb : Below w.heap.size w w') : FVars A w' := ⟨h.ne.keep hb, h.vars.below hb, h.ety.below hb, h.pow.below hb⟩

set_option maxHeartbeats 16000000 in
set_option maxRecDepth 100000 in
theorem lexerFaults_walk (w : World) (hL : ∃ A, FVars A w) (line : Int) (hl : (Lit.int .i64 line).wf = true) (col : Int) (hc : (Lit.int .i64 col).wf = true) (n : Int) (hn : (Lit.int .i64 n).wf = true) :
    Calls Tryd.prog 4 #[.int .i64 line, .int .i64 col, .int .i64 n] w fun e w' => e = .returned (.bool true) ∧ Below w.heap.size w w' := by
  have bl := bounds_i64 hl
  have bc := bounds_i64 hc
  have bn := bounds_i64 hn
  clear hl hc hn
  obtain ⟨A, hv⟩ := hL
  have HA := Lib.hid (alive07 A w hv.vars)
  have Hv := Lib.hid hv
  clear hv
  obtain ⟨K, hK20, hK⟩ : ∃ K : Nat, K < 20 ∧ (IntKind.u64.wrap n).tmod 20 = (K : Int) := by
    refine ⟨((IntKind.u64.wrap n).tmod 20).toNat, ?_⟩
    have h0 : 0 ≤ IntKind.u64.wrap n := by rw [IntKind.wrap_u64]; omega
    rw [Int.tmod_eq_emod_of_nonneg h0]
    omega
  have hs : ∀ m : Int, -9223372036854775808 ≤ m → m ≤ 9223372036854775807 → (⟨(Lib.itoa m).toArray⟩ : ByteArray).size ≤ 21 := fun m a b => by show (Lib.itoa m).toArray.size ≤ 21; simpa using itoa_len m a b
  have hl1 := hs line bl.1 bl.2
  have hl2 := hs col bc.1 bc.2
  have HE := Lib.hid (fun wx (h : FVars A wx) => errof_any A K hK20 wx h.ne)
  have HEr := Lib.hid (fun g ev wx (h : FVars A wx) (hB : Blk wx g [.int .i64 line, .int .i64 col, ev]) => error_any g line col ev wx h.pow hB bl.1 bl.2 bc.1 bc.2)
  have HFl := Lib.hid (fun wx => figs_any line wx bl.1 bl.2)
  have HFc := Lib.hid (fun wx => figs_any col wx bc.1 bc.2)
  have HNm := Lib.hid (fun wx => name_any n wx)
  unfold faultText at HEr
  generalize (⟨(Lib.itoa line).toArray⟩ : ByteArray) = tl at *
  generalize (⟨(Lib.itoa col).toArray⟩ : ByteArray) = tc at *
  have hs1 : ¬ (9223372036854775807 < tl.size + 1) := by omega
  have hs2 : ¬ (9223372036854775807 < tl.size + 1 + tc.size) := by omega
  clear hs
  obtain ⟨ev, hev⟩ : ∃ ev, ev = errBy A K := ⟨_, rfl⟩
  have hsh : (ev = .nilIface ∧ ((K : Int) == 0) = true) ∨ ∃ p, ev = .iface 132 p ∧ ((K : Int) == 0) = false ∧ K ≠ 0 := by
    rw [hev]; unfold errBy
    split
    · rename_i h; exact .inl ⟨rfl, by rw [h]; rfl⟩
    · rename_i h; exact .inr ⟨_, rfl, by rw [beq_eq_false_iff_ne]; omega, h⟩
  have Hev := Lib.hid hev
  rw [← hev] at HE
  have HWe : Hid (∀ wx, FVars A wx → Calls Tryd.prog 8 #[ev] wx fun e w' => e = .returned (.tuple #[.int .i64 0, .int .i64 0, .bool false]) ∧ Below wx.heap.size wx w') := Lib.hid (fun wx h => by
    rw [hev]; unfold errBy
    split
    · exact where_nil wx
    · exact where_err _ wx h.ety)
  have HNu : Hid (∀ wx, FVars A wx → Calls Tryd.prog 11 #[ev] wx fun e w' => e = .returned (.int .i64 K) ∧ Below wx.heap.size wx w') := Lib.hid (fun wx h => by
    rw [hev]; unfold errBy
    split
    · rename_i h0; rw [h0]; exact num_nil wx
    · have := num_err A wx h.ne (K - 1) (by omega)
      rw [show K - 1 + 1 = K by omega] at this
      exact this)
  have HNo : Hid (∀ wx g g2, FVars A wx → K ≠ 0 → Blk wx g [.int .i64 7, .int .i64 8, .iface 32 (.pointer (some ⟨g2, 0, none⟩))] → Blk wx g2 [.int .i64 line, .int .i64 col, ev] → Calls Tryd.prog 11 #[.iface 32 (.pointer (some ⟨g, 0, none⟩))] wx fun e w' => e = .returned (.int .i64 K) ∧ Below wx.heap.size wx w') := Lib.hid (fun wx g g2 h h0 h1 h2 => by
    have := num_outer A wx h.ne g g2 (K - 1) (by omega) h1.lt h2.lt (h1.cell rfl) (by rw [hev] at h2; unfold errBy at h2; rw [if_neg h0] at h2; exact h2.cell rfl)
    rw [show K - 1 + 1 = K by omega] at this
    exact this)
  have HUn := Lib.hid (fun wx g (h : Blk wx g [.int .i64 line, .int .i64 col, ev]) => unwrap_any g ev wx (h.cell rfl))
  clear hev
  rcases hsh with ⟨rfl, hkz⟩ | ⟨p, rfl, hkz, hKne⟩
  · go_enter Tryd.func4, Tryd.ntmps4
    go_wp2_with fail
    refine HA.out.mono ?_
    rintro e w1 ⟨rfl, hb1⟩
    have Hv1 := Lib.hid (Hv.out.below hb1)
    go_wp2_with fail
    refine (HE.out _ Hv1.out).mono ?_
    rintro e w2 ⟨rfl, hb2⟩
    have Hb2 := Lib.hid (hb1.trans (hb2.mono hb1.size))
    clear hb1 hb2
    go_upto_region 6 with (first
      | (refine wpList_box_lay rfl 35 _ rfl [.int .i64 line, .int .i64 col, _] rfl ?_; (intro w3 gf hgf hBf hb3))
      | (refine wpList_box_lay rfl 35 _ rfl [.int .i64 7, .int .i64 8, .iface 32 (.pointer (some ⟨gf, 0, none⟩))] rfl ?_; (intro w4 go hgo hBo hb4; have HBf := Lib.hid (hBf.below hb4 hBf.lt); have Hb4 := Lib.hid ((Hb2.out.trans (hb3.mono Hb2.out.size)).trans (hb4.mono (Nat.le_trans Hb2.out.size hb3.size))); clear hBf hb3 hb4 hgf hgo)))
    have HBo := Lib.hid hBo
    clear hBo
    have Hv4 := Lib.hid (Hv.out.below Hb4.out)
    go_simp
    go_wp2_with fail
    refine (where_fault gf line col _ _ Hv4.out.ety HBf.out).mono ?_
    rintro e w5 ⟨rfl, hb5⟩
    have HBf5 := Lib.hid (HBf.out.below hb5 HBf.out.lt)
    have HBo5 := Lib.hid (HBo.out.below hb5 HBo.out.lt)
    have Hb5 := Lib.hid (Hb4.out.trans (hb5.mono Hb4.out.size))
    have Hv5 := Lib.hid (Hv.out.below Hb5.out)
    clear hb5
    go_wp2_with fail
    refine (where_fault go 7 8 _ _ Hv5.out.ety HBo5.out).mono ?_
    rintro e w6 ⟨rfl, hb6⟩
    have HBf6 := Lib.hid (HBf5.out.below hb6 HBf5.out.lt)
    have HBo6 := Lib.hid (HBo5.out.below hb6 HBo5.out.lt)
    have Hb6 := Lib.hid (Hb5.out.trans (hb6.mono Hb5.out.size))
    have Hv6 := Lib.hid (Hv.out.below Hb6.out)
    clear hb6
    go_wp2_with fail
    refine (HE.out _ Hv6.out).mono ?_
    rintro e w7 ⟨rfl, hb7⟩
    have HBf7 := Lib.hid (HBf6.out.below hb7 HBf6.out.lt)
    have HBo7 := Lib.hid (HBo6.out.below hb7 HBo6.out.lt)
    have Hb7 := Lib.hid (Hb6.out.trans (hb7.mono Hb6.out.size))
    have Hv7 := Lib.hid (Hv.out.below Hb7.out)
    clear hb7
    go_wp2_with fail
    refine (HWe.out _ Hv7.out).mono ?_
    rintro e w8 ⟨rfl, hb8⟩
    have HBf8 := Lib.hid (HBf7.out.below hb8 HBf7.out.lt)
    have HBo8 := Lib.hid (HBo7.out.below hb8 HBo7.out.lt)
    have Hb8 := Lib.hid (Hb7.out.trans (hb8.mono Hb7.out.size))
    clear hb8
    go_upto_region 10 with (fail)
    have Hsz8 := Lib.hid Hb8.out.size
    have HW : Hid (∀ wx, Below w8.heap.size w8 wx → FVars A wx ∧ Blk wx gf [.int .i64 line, .int .i64 col, _] ∧ Blk wx go [.int .i64 7, .int .i64 8, .iface 32 (.pointer (some ⟨gf, 0, none⟩))] ∧ Below w.heap.size w wx) := Lib.hid (fun wx h =>
      have hb := Hb8.out.trans (h.mono Hsz8.out)
      ⟨Hv.out.below hb, HBf8.out.below h HBf8.out.lt, HBo8.out.below h HBo8.out.lt, hb⟩)
    clear HBf HBo HBf5 HBo5 HBf6 HBo6 HBf7 HBo7 Hb2 Hb4 Hb5 Hb6 Hb7 Hv1 Hv4 Hv5 Hv6 Hv7
    by_cases hin : 1 ≤ n ∧ n ≤ 4
    · have h1 : 1 ≤ n := hin.1
      have h4 : n ≤ 4 := hin.2
      have hcase : n = 1 ∨ n = 2 ∨ n = 3 ∨ n = 4 := by omega
      clear hin
      rcases hcase with hn | hn | hn | hn
      · have hkw : kindWord n = ⟨#[119, 111, 114, 100]⟩ := by rw [hn]; rfl
        rw [hkw, hn] at HNm
        clear hkw
        go_upto_region 12 with (fail)
        have hb0 : Below w8.heap.size w8 (w8.alloc (.cells #[.string ⟨#[119, 111, 114, 100]⟩, .string ⟨#[105, 110, 116]⟩, .string ⟨#[116, 101, 120, 116]⟩, .string ⟨#[115, 105, 103, 110]⟩] 9)) := (Below.refl _ _).alloc (Nat.le_refl _) _
        go_wp2_with (first
          | (go_at_call 9; (with_reducible refine (HEr.out gf _ _ (HW.out _ hb0).1 (HW.out _ hb0).2.1).mono ?_); rintro e wa ⟨rfl, hba⟩; replace hb0 := hb0.trans (hba.mono hb0.size); clear hba)
          | (go_at_call 10; (with_reducible refine (HFl.out _).mono ?_); rintro e wa ⟨rfl, hba⟩; replace hb0 := hb0.trans (hba.mono hb0.size); clear hba)
          | (go_at_call 10; (with_reducible refine (HFc.out _).mono ?_); rintro e wa ⟨rfl, hba⟩; replace hb0 := hb0.trans (hba.mono hb0.size); clear hba)
          | (go_at_call 12; (with_reducible refine (HUn.out _ gf (HW.out _ hb0).2.1).mono ?_); rintro e wa ⟨rfl, rfl⟩)
          | (go_at_call 11; (with_reducible refine (HNu.out _ (HW.out _ hb0).1).mono ?_); rintro e wa ⟨rfl, hba⟩; replace hb0 := hb0.trans (hba.mono hb0.size); clear hba)
          | (go_at_call 13; (with_reducible refine (HNm.out _).mono ?_); rintro e wa ⟨rfl, hba⟩; replace hb0 := hb0.trans (hba.mono hb0.size); clear hba))
        go_ret
        exact ⟨rfl, (HW.out _ hb0).2.2.2⟩
      · have hkw : kindWord n = ⟨#[105, 110, 116]⟩ := by rw [hn]; rfl
        rw [hkw, hn] at HNm
        clear hkw
        go_upto_region 12 with (fail)
        have hb0 : Below w8.heap.size w8 (w8.alloc (.cells #[.string ⟨#[119, 111, 114, 100]⟩, .string ⟨#[105, 110, 116]⟩, .string ⟨#[116, 101, 120, 116]⟩, .string ⟨#[115, 105, 103, 110]⟩] 9)) := (Below.refl _ _).alloc (Nat.le_refl _) _
        go_wp2_with (first
          | (go_at_call 9; (with_reducible refine (HEr.out gf _ _ (HW.out _ hb0).1 (HW.out _ hb0).2.1).mono ?_); rintro e wa ⟨rfl, hba⟩; replace hb0 := hb0.trans (hba.mono hb0.size); clear hba)
          | (go_at_call 10; (with_reducible refine (HFl.out _).mono ?_); rintro e wa ⟨rfl, hba⟩; replace hb0 := hb0.trans (hba.mono hb0.size); clear hba)
          | (go_at_call 10; (with_reducible refine (HFc.out _).mono ?_); rintro e wa ⟨rfl, hba⟩; replace hb0 := hb0.trans (hba.mono hb0.size); clear hba)
          | (go_at_call 12; (with_reducible refine (HUn.out _ gf (HW.out _ hb0).2.1).mono ?_); rintro e wa ⟨rfl, rfl⟩)
          | (go_at_call 11; (with_reducible refine (HNu.out _ (HW.out _ hb0).1).mono ?_); rintro e wa ⟨rfl, hba⟩; replace hb0 := hb0.trans (hba.mono hb0.size); clear hba)
          | (go_at_call 13; (with_reducible refine (HNm.out _).mono ?_); rintro e wa ⟨rfl, hba⟩; replace hb0 := hb0.trans (hba.mono hb0.size); clear hba))
        go_ret
        exact ⟨rfl, (HW.out _ hb0).2.2.2⟩
      · have hkw : kindWord n = ⟨#[116, 101, 120, 116]⟩ := by rw [hn]; rfl
        rw [hkw, hn] at HNm
        clear hkw
        go_upto_region 12 with (fail)
        have hb0 : Below w8.heap.size w8 (w8.alloc (.cells #[.string ⟨#[119, 111, 114, 100]⟩, .string ⟨#[105, 110, 116]⟩, .string ⟨#[116, 101, 120, 116]⟩, .string ⟨#[115, 105, 103, 110]⟩] 9)) := (Below.refl _ _).alloc (Nat.le_refl _) _
        go_wp2_with (first
          | (go_at_call 9; (with_reducible refine (HEr.out gf _ _ (HW.out _ hb0).1 (HW.out _ hb0).2.1).mono ?_); rintro e wa ⟨rfl, hba⟩; replace hb0 := hb0.trans (hba.mono hb0.size); clear hba)
          | (go_at_call 10; (with_reducible refine (HFl.out _).mono ?_); rintro e wa ⟨rfl, hba⟩; replace hb0 := hb0.trans (hba.mono hb0.size); clear hba)
          | (go_at_call 10; (with_reducible refine (HFc.out _).mono ?_); rintro e wa ⟨rfl, hba⟩; replace hb0 := hb0.trans (hba.mono hb0.size); clear hba)
          | (go_at_call 12; (with_reducible refine (HUn.out _ gf (HW.out _ hb0).2.1).mono ?_); rintro e wa ⟨rfl, rfl⟩)
          | (go_at_call 11; (with_reducible refine (HNu.out _ (HW.out _ hb0).1).mono ?_); rintro e wa ⟨rfl, hba⟩; replace hb0 := hb0.trans (hba.mono hb0.size); clear hba)
          | (go_at_call 13; (with_reducible refine (HNm.out _).mono ?_); rintro e wa ⟨rfl, hba⟩; replace hb0 := hb0.trans (hba.mono hb0.size); clear hba))
        go_ret
        exact ⟨rfl, (HW.out _ hb0).2.2.2⟩
      · have hkw : kindWord n = ⟨#[115, 105, 103, 110]⟩ := by rw [hn]; rfl
        rw [hkw, hn] at HNm
        clear hkw
        go_upto_region 12 with (fail)
        have hb0 : Below w8.heap.size w8 (w8.alloc (.cells #[.string ⟨#[119, 111, 114, 100]⟩, .string ⟨#[105, 110, 116]⟩, .string ⟨#[116, 101, 120, 116]⟩, .string ⟨#[115, 105, 103, 110]⟩] 9)) := (Below.refl _ _).alloc (Nat.le_refl _) _
        go_wp2_with (first
          | (go_at_call 9; (with_reducible refine (HEr.out gf _ _ (HW.out _ hb0).1 (HW.out _ hb0).2.1).mono ?_); rintro e wa ⟨rfl, hba⟩; replace hb0 := hb0.trans (hba.mono hb0.size); clear hba)
          | (go_at_call 10; (with_reducible refine (HFl.out _).mono ?_); rintro e wa ⟨rfl, hba⟩; replace hb0 := hb0.trans (hba.mono hb0.size); clear hba)
          | (go_at_call 10; (with_reducible refine (HFc.out _).mono ?_); rintro e wa ⟨rfl, hba⟩; replace hb0 := hb0.trans (hba.mono hb0.size); clear hba)
          | (go_at_call 12; (with_reducible refine (HUn.out _ gf (HW.out _ hb0).2.1).mono ?_); rintro e wa ⟨rfl, rfl⟩)
          | (go_at_call 11; (with_reducible refine (HNu.out _ (HW.out _ hb0).1).mono ?_); rintro e wa ⟨rfl, hba⟩; replace hb0 := hb0.trans (hba.mono hb0.size); clear hba)
          | (go_at_call 13; (with_reducible refine (HNm.out _).mono ?_); rintro e wa ⟨rfl, hba⟩; replace hb0 := hb0.trans (hba.mono hb0.size); clear hba))
        go_ret
        exact ⟨rfl, (HW.out _ hb0).2.2.2⟩
    · have hkw : kindWord n = ⟨#[]⟩ := by
        unfold kindWord
        rw [if_neg (by omega), if_neg (by omega), if_neg (by omega), if_neg (by omega)]
      rw [hkw] at HNm
      by_cases h1 : 1 ≤ n
      · have h4 : decide (n ≤ 4) = false := decide_eq_false (by omega)
        clear hin hkw
        have hb0 : Below w8.heap.size w8 w8 := Below.refl _ _
        go_upto_region 12 with (fail)
        go_wp2_with (first
          | (go_at_call 9; (with_reducible refine (HEr.out gf _ _ (HW.out _ hb0).1 (HW.out _ hb0).2.1).mono ?_); rintro e wa ⟨rfl, hba⟩; replace hb0 := hb0.trans (hba.mono hb0.size); clear hba)
          | (go_at_call 10; (with_reducible refine (HFl.out _).mono ?_); rintro e wa ⟨rfl, hba⟩; replace hb0 := hb0.trans (hba.mono hb0.size); clear hba)
          | (go_at_call 10; (with_reducible refine (HFc.out _).mono ?_); rintro e wa ⟨rfl, hba⟩; replace hb0 := hb0.trans (hba.mono hb0.size); clear hba)
          | (go_at_call 12; (with_reducible refine (HUn.out _ gf (HW.out _ hb0).2.1).mono ?_); rintro e wa ⟨rfl, rfl⟩)
          | (go_at_call 11; (with_reducible refine (HNu.out _ (HW.out _ hb0).1).mono ?_); rintro e wa ⟨rfl, hba⟩; replace hb0 := hb0.trans (hba.mono hb0.size); clear hba)
          | (go_at_call 13; (with_reducible refine (HNm.out _).mono ?_); rintro e wa ⟨rfl, hba⟩; replace hb0 := hb0.trans (hba.mono hb0.size); clear hba))
        go_ret
        exact ⟨rfl, (HW.out _ hb0).2.2.2⟩
      · have h4 : decide (1 ≤ n) = false := decide_eq_false (by omega)
        clear hin hkw
        have hb0 : Below w8.heap.size w8 w8 := Below.refl _ _
        go_upto_region 12 with (fail)
        go_wp2_with (first
          | (go_at_call 9; (with_reducible refine (HEr.out gf _ _ (HW.out _ hb0).1 (HW.out _ hb0).2.1).mono ?_); rintro e wa ⟨rfl, hba⟩; replace hb0 := hb0.trans (hba.mono hb0.size); clear hba)
          | (go_at_call 10; (with_reducible refine (HFl.out _).mono ?_); rintro e wa ⟨rfl, hba⟩; replace hb0 := hb0.trans (hba.mono hb0.size); clear hba)
          | (go_at_call 10; (with_reducible refine (HFc.out _).mono ?_); rintro e wa ⟨rfl, hba⟩; replace hb0 := hb0.trans (hba.mono hb0.size); clear hba)
          | (go_at_call 12; (with_reducible refine (HUn.out _ gf (HW.out _ hb0).2.1).mono ?_); rintro e wa ⟨rfl, rfl⟩)
          | (go_at_call 11; (with_reducible refine (HNu.out _ (HW.out _ hb0).1).mono ?_); rintro e wa ⟨rfl, hba⟩; replace hb0 := hb0.trans (hba.mono hb0.size); clear hba)
          | (go_at_call 13; (with_reducible refine (HNm.out _).mono ?_); rintro e wa ⟨rfl, hba⟩; replace hb0 := hb0.trans (hba.mono hb0.size); clear hba))
        go_ret
        exact ⟨rfl, (HW.out _ hb0).2.2.2⟩
  · go_enter Tryd.func4, Tryd.ntmps4
    go_wp2_with fail
    refine HA.out.mono ?_
    rintro e w1 ⟨rfl, hb1⟩
    have Hv1 := Lib.hid (Hv.out.below hb1)
    go_wp2_with fail
    refine (HE.out _ Hv1.out).mono ?_
    rintro e w2 ⟨rfl, hb2⟩
    have Hb2 := Lib.hid (hb1.trans (hb2.mono hb1.size))
    clear hb1 hb2
    go_upto_region 6 with (first
      | (refine wpList_box_lay rfl 35 _ rfl [.int .i64 line, .int .i64 col, _] rfl ?_; (intro w3 gf hgf hBf hb3))
      | (refine wpList_box_lay rfl 35 _ rfl [.int .i64 7, .int .i64 8, .iface 32 (.pointer (some ⟨gf, 0, none⟩))] rfl ?_; (intro w4 go hgo hBo hb4; have HBf := Lib.hid (hBf.below hb4 hBf.lt); have Hb4 := Lib.hid ((Hb2.out.trans (hb3.mono Hb2.out.size)).trans (hb4.mono (Nat.le_trans Hb2.out.size hb3.size))); clear hBf hb3 hb4 hgf hgo)))
    have HBo := Lib.hid hBo
    clear hBo
    have Hv4 := Lib.hid (Hv.out.below Hb4.out)
    go_simp
    go_wp2_with fail
    refine (where_fault gf line col _ _ Hv4.out.ety HBf.out).mono ?_
    rintro e w5 ⟨rfl, hb5⟩
    have HBf5 := Lib.hid (HBf.out.below hb5 HBf.out.lt)
    have HBo5 := Lib.hid (HBo.out.below hb5 HBo.out.lt)
    have Hb5 := Lib.hid (Hb4.out.trans (hb5.mono Hb4.out.size))
    have Hv5 := Lib.hid (Hv.out.below Hb5.out)
    clear hb5
    go_wp2_with fail
    refine (where_fault go 7 8 _ _ Hv5.out.ety HBo5.out).mono ?_
    rintro e w6 ⟨rfl, hb6⟩
    have HBf6 := Lib.hid (HBf5.out.below hb6 HBf5.out.lt)
    have HBo6 := Lib.hid (HBo5.out.below hb6 HBo5.out.lt)
    have Hb6 := Lib.hid (Hb5.out.trans (hb6.mono Hb5.out.size))
    have Hv6 := Lib.hid (Hv.out.below Hb6.out)
    clear hb6
    go_wp2_with fail
    refine (HE.out _ Hv6.out).mono ?_
    rintro e w7 ⟨rfl, hb7⟩
    have HBf7 := Lib.hid (HBf6.out.below hb7 HBf6.out.lt)
    have HBo7 := Lib.hid (HBo6.out.below hb7 HBo6.out.lt)
    have Hb7 := Lib.hid (Hb6.out.trans (hb7.mono Hb6.out.size))
    have Hv7 := Lib.hid (Hv.out.below Hb7.out)
    clear hb7
    go_wp2_with fail
    refine (HWe.out _ Hv7.out).mono ?_
    rintro e w8 ⟨rfl, hb8⟩
    have HBf8 := Lib.hid (HBf7.out.below hb8 HBf7.out.lt)
    have HBo8 := Lib.hid (HBo7.out.below hb8 HBo7.out.lt)
    have Hb8 := Lib.hid (Hb7.out.trans (hb8.mono Hb7.out.size))
    clear hb8
    go_upto_region 10 with (fail)
    have Hsz8 := Lib.hid Hb8.out.size
    have HW : Hid (∀ wx, Below w8.heap.size w8 wx → FVars A wx ∧ Blk wx gf [.int .i64 line, .int .i64 col, _] ∧ Blk wx go [.int .i64 7, .int .i64 8, .iface 32 (.pointer (some ⟨gf, 0, none⟩))] ∧ Below w.heap.size w wx) := Lib.hid (fun wx h =>
      have hb := Hb8.out.trans (h.mono Hsz8.out)
      ⟨Hv.out.below hb, HBf8.out.below h HBf8.out.lt, HBo8.out.below h HBo8.out.lt, hb⟩)
    clear HBf HBo HBf5 HBo5 HBf6 HBo6 HBf7 HBo7 Hb2 Hb4 Hb5 Hb6 Hb7 Hv1 Hv4 Hv5 Hv6 Hv7
    by_cases hin : 1 ≤ n ∧ n ≤ 4
    · have h1 : 1 ≤ n := hin.1
      have h4 : n ≤ 4 := hin.2
      have hcase : n = 1 ∨ n = 2 ∨ n = 3 ∨ n = 4 := by omega
      clear hin
      rcases hcase with hn | hn | hn | hn
      · have hkw : kindWord n = ⟨#[119, 111, 114, 100]⟩ := by rw [hn]; rfl
        rw [hkw, hn] at HNm
        clear hkw
        go_upto_region 12 with (fail)
        have hb0 : Below w8.heap.size w8 (w8.alloc (.cells #[.string ⟨#[119, 111, 114, 100]⟩, .string ⟨#[105, 110, 116]⟩, .string ⟨#[116, 101, 120, 116]⟩, .string ⟨#[115, 105, 103, 110]⟩] 9)) := (Below.refl _ _).alloc (Nat.le_refl _) _
        go_wp2_with (first
          | (go_at_call 9; (with_reducible refine (HEr.out gf _ _ (HW.out _ hb0).1 (HW.out _ hb0).2.1).mono ?_); rintro e wa ⟨rfl, hba⟩; replace hb0 := hb0.trans (hba.mono hb0.size); clear hba)
          | (go_at_call 10; (with_reducible refine (HFl.out _).mono ?_); rintro e wa ⟨rfl, hba⟩; replace hb0 := hb0.trans (hba.mono hb0.size); clear hba)
          | (go_at_call 10; (with_reducible refine (HFc.out _).mono ?_); rintro e wa ⟨rfl, hba⟩; replace hb0 := hb0.trans (hba.mono hb0.size); clear hba)
          | (go_at_call 12; (with_reducible refine (HUn.out _ gf (HW.out _ hb0).2.1).mono ?_); rintro e wa ⟨rfl, rfl⟩)
          | (go_at_call 11; (with_reducible refine (HNu.out _ (HW.out _ hb0).1).mono ?_); rintro e wa ⟨rfl, hba⟩; replace hb0 := hb0.trans (hba.mono hb0.size); clear hba)
          | (go_at_call 11; (with_reducible refine (HNo.out _ go gf (HW.out _ hb0).1 hKne (HW.out _ hb0).2.2.1 (HW.out _ hb0).2.1).mono ?_); rintro e wa ⟨rfl, hba⟩; replace hb0 := hb0.trans (hba.mono hb0.size); clear hba)
          | (go_at_call 13; (with_reducible refine (HNm.out _).mono ?_); rintro e wa ⟨rfl, hba⟩; replace hb0 := hb0.trans (hba.mono hb0.size); clear hba))
        go_ret
        exact ⟨rfl, (HW.out _ hb0).2.2.2⟩
      · have hkw : kindWord n = ⟨#[105, 110, 116]⟩ := by rw [hn]; rfl
        rw [hkw, hn] at HNm
        clear hkw
        go_upto_region 12 with (fail)
        have hb0 : Below w8.heap.size w8 (w8.alloc (.cells #[.string ⟨#[119, 111, 114, 100]⟩, .string ⟨#[105, 110, 116]⟩, .string ⟨#[116, 101, 120, 116]⟩, .string ⟨#[115, 105, 103, 110]⟩] 9)) := (Below.refl _ _).alloc (Nat.le_refl _) _
        go_wp2_with (first
          | (go_at_call 9; (with_reducible refine (HEr.out gf _ _ (HW.out _ hb0).1 (HW.out _ hb0).2.1).mono ?_); rintro e wa ⟨rfl, hba⟩; replace hb0 := hb0.trans (hba.mono hb0.size); clear hba)
          | (go_at_call 10; (with_reducible refine (HFl.out _).mono ?_); rintro e wa ⟨rfl, hba⟩; replace hb0 := hb0.trans (hba.mono hb0.size); clear hba)
          | (go_at_call 10; (with_reducible refine (HFc.out _).mono ?_); rintro e wa ⟨rfl, hba⟩; replace hb0 := hb0.trans (hba.mono hb0.size); clear hba)
          | (go_at_call 12; (with_reducible refine (HUn.out _ gf (HW.out _ hb0).2.1).mono ?_); rintro e wa ⟨rfl, rfl⟩)
          | (go_at_call 11; (with_reducible refine (HNu.out _ (HW.out _ hb0).1).mono ?_); rintro e wa ⟨rfl, hba⟩; replace hb0 := hb0.trans (hba.mono hb0.size); clear hba)
          | (go_at_call 11; (with_reducible refine (HNo.out _ go gf (HW.out _ hb0).1 hKne (HW.out _ hb0).2.2.1 (HW.out _ hb0).2.1).mono ?_); rintro e wa ⟨rfl, hba⟩; replace hb0 := hb0.trans (hba.mono hb0.size); clear hba)
          | (go_at_call 13; (with_reducible refine (HNm.out _).mono ?_); rintro e wa ⟨rfl, hba⟩; replace hb0 := hb0.trans (hba.mono hb0.size); clear hba))
        go_ret
        exact ⟨rfl, (HW.out _ hb0).2.2.2⟩
      · have hkw : kindWord n = ⟨#[116, 101, 120, 116]⟩ := by rw [hn]; rfl
        rw [hkw, hn] at HNm
        clear hkw
        go_upto_region 12 with (fail)
        have hb0 : Below w8.heap.size w8 (w8.alloc (.cells #[.string ⟨#[119, 111, 114, 100]⟩, .string ⟨#[105, 110, 116]⟩, .string ⟨#[116, 101, 120, 116]⟩, .string ⟨#[115, 105, 103, 110]⟩] 9)) := (Below.refl _ _).alloc (Nat.le_refl _) _
        go_wp2_with (first
          | (go_at_call 9; (with_reducible refine (HEr.out gf _ _ (HW.out _ hb0).1 (HW.out _ hb0).2.1).mono ?_); rintro e wa ⟨rfl, hba⟩; replace hb0 := hb0.trans (hba.mono hb0.size); clear hba)
          | (go_at_call 10; (with_reducible refine (HFl.out _).mono ?_); rintro e wa ⟨rfl, hba⟩; replace hb0 := hb0.trans (hba.mono hb0.size); clear hba)
          | (go_at_call 10; (with_reducible refine (HFc.out _).mono ?_); rintro e wa ⟨rfl, hba⟩; replace hb0 := hb0.trans (hba.mono hb0.size); clear hba)
          | (go_at_call 12; (with_reducible refine (HUn.out _ gf (HW.out _ hb0).2.1).mono ?_); rintro e wa ⟨rfl, rfl⟩)
          | (go_at_call 11; (with_reducible refine (HNu.out _ (HW.out _ hb0).1).mono ?_); rintro e wa ⟨rfl, hba⟩; replace hb0 := hb0.trans (hba.mono hb0.size); clear hba)
          | (go_at_call 11; (with_reducible refine (HNo.out _ go gf (HW.out _ hb0).1 hKne (HW.out _ hb0).2.2.1 (HW.out _ hb0).2.1).mono ?_); rintro e wa ⟨rfl, hba⟩; replace hb0 := hb0.trans (hba.mono hb0.size); clear hba)
          | (go_at_call 13; (with_reducible refine (HNm.out _).mono ?_); rintro e wa ⟨rfl, hba⟩; replace hb0 := hb0.trans (hba.mono hb0.size); clear hba))
        go_ret
        exact ⟨rfl, (HW.out _ hb0).2.2.2⟩
      · have hkw : kindWord n = ⟨#[115, 105, 103, 110]⟩ := by rw [hn]; rfl
        rw [hkw, hn] at HNm
        clear hkw
        go_upto_region 12 with (fail)
        have hb0 : Below w8.heap.size w8 (w8.alloc (.cells #[.string ⟨#[119, 111, 114, 100]⟩, .string ⟨#[105, 110, 116]⟩, .string ⟨#[116, 101, 120, 116]⟩, .string ⟨#[115, 105, 103, 110]⟩] 9)) := (Below.refl _ _).alloc (Nat.le_refl _) _
        go_wp2_with (first
          | (go_at_call 9; (with_reducible refine (HEr.out gf _ _ (HW.out _ hb0).1 (HW.out _ hb0).2.1).mono ?_); rintro e wa ⟨rfl, hba⟩; replace hb0 := hb0.trans (hba.mono hb0.size); clear hba)
          | (go_at_call 10; (with_reducible refine (HFl.out _).mono ?_); rintro e wa ⟨rfl, hba⟩; replace hb0 := hb0.trans (hba.mono hb0.size); clear hba)
          | (go_at_call 10; (with_reducible refine (HFc.out _).mono ?_); rintro e wa ⟨rfl, hba⟩; replace hb0 := hb0.trans (hba.mono hb0.size); clear hba)
          | (go_at_call 12; (with_reducible refine (HUn.out _ gf (HW.out _ hb0).2.1).mono ?_); rintro e wa ⟨rfl, rfl⟩)
          | (go_at_call 11; (with_reducible refine (HNu.out _ (HW.out _ hb0).1).mono ?_); rintro e wa ⟨rfl, hba⟩; replace hb0 := hb0.trans (hba.mono hb0.size); clear hba)
          | (go_at_call 11; (with_reducible refine (HNo.out _ go gf (HW.out _ hb0).1 hKne (HW.out _ hb0).2.2.1 (HW.out _ hb0).2.1).mono ?_); rintro e wa ⟨rfl, hba⟩; replace hb0 := hb0.trans (hba.mono hb0.size); clear hba)
          | (go_at_call 13; (with_reducible refine (HNm.out _).mono ?_); rintro e wa ⟨rfl, hba⟩; replace hb0 := hb0.trans (hba.mono hb0.size); clear hba))
        go_ret
        exact ⟨rfl, (HW.out _ hb0).2.2.2⟩
    · have hkw : kindWord n = ⟨#[]⟩ := by
        unfold kindWord
        rw [if_neg (by omega), if_neg (by omega), if_neg (by omega), if_neg (by omega)]
      rw [hkw] at HNm
      by_cases h1 : 1 ≤ n
      · have h4 : decide (n ≤ 4) = false := decide_eq_false (by omega)
        clear hin hkw
        have hb0 : Below w8.heap.size w8 w8 := Below.refl _ _
        go_upto_region 12 with (fail)
        go_wp2_with (first
          | (go_at_call 9; (with_reducible refine (HEr.out gf _ _ (HW.out _ hb0).1 (HW.out _ hb0).2.1).mono ?_); rintro e wa ⟨rfl, hba⟩; replace hb0 := hb0.trans (hba.mono hb0.size); clear hba)
          | (go_at_call 10; (with_reducible refine (HFl.out _).mono ?_); rintro e wa ⟨rfl, hba⟩; replace hb0 := hb0.trans (hba.mono hb0.size); clear hba)
          | (go_at_call 10; (with_reducible refine (HFc.out _).mono ?_); rintro e wa ⟨rfl, hba⟩; replace hb0 := hb0.trans (hba.mono hb0.size); clear hba)
          | (go_at_call 12; (with_reducible refine (HUn.out _ gf (HW.out _ hb0).2.1).mono ?_); rintro e wa ⟨rfl, rfl⟩)
          | (go_at_call 11; (with_reducible refine (HNu.out _ (HW.out _ hb0).1).mono ?_); rintro e wa ⟨rfl, hba⟩; replace hb0 := hb0.trans (hba.mono hb0.size); clear hba)
          | (go_at_call 11; (with_reducible refine (HNo.out _ go gf (HW.out _ hb0).1 hKne (HW.out _ hb0).2.2.1 (HW.out _ hb0).2.1).mono ?_); rintro e wa ⟨rfl, hba⟩; replace hb0 := hb0.trans (hba.mono hb0.size); clear hba)
          | (go_at_call 13; (with_reducible refine (HNm.out _).mono ?_); rintro e wa ⟨rfl, hba⟩; replace hb0 := hb0.trans (hba.mono hb0.size); clear hba))
        go_ret
        exact ⟨rfl, (HW.out _ hb0).2.2.2⟩
      · have h4 : decide (1 ≤ n) = false := decide_eq_false (by omega)
        clear hin hkw
        have hb0 : Below w8.heap.size w8 w8 := Below.refl _ _
        go_upto_region 12 with (fail)
        go_wp2_with (first
          | (go_at_call 9; (with_reducible refine (HEr.out gf _ _ (HW.out _ hb0).1 (HW.out _ hb0).2.1).mono ?_); rintro e wa ⟨rfl, hba⟩; replace hb0 := hb0.trans (hba.mono hb0.size); clear hba)
          | (go_at_call 10; (with_reducible refine (HFl.out _).mono ?_); rintro e wa ⟨rfl, hba⟩; replace hb0 := hb0.trans (hba.mono hb0.size); clear hba)
          | (go_at_call 10; (with_reducible refine (HFc.out _).mono ?_); rintro e wa ⟨rfl, hba⟩; replace hb0 := hb0.trans (hba.mono hb0.size); clear hba)
          | (go_at_call 12; (with_reducible refine (HUn.out _ gf (HW.out _ hb0).2.1).mono ?_); rintro e wa ⟨rfl, rfl⟩)
          | (go_at_call 11; (with_reducible refine (HNu.out _ (HW.out _ hb0).1).mono ?_); rintro e wa ⟨rfl, hba⟩; replace hb0 := hb0.trans (hba.mono hb0.size); clear hba)
          | (go_at_call 11; (with_reducible refine (HNo.out _ go gf (HW.out _ hb0).1 hKne (HW.out _ hb0).2.2.1 (HW.out _ hb0).2.1).mono ?_); rintro e wa ⟨rfl, hba⟩; replace hb0 := hb0.trans (hba.mono hb0.size); clear hba)
          | (go_at_call 13; (with_reducible refine (HNm.out _).mono ?_); rintro e wa ⟨rfl, hba⟩; replace hb0 := hb0.trans (hba.mono hb0.size); clear hba))
        go_ret
        exact ⟨rfl, (HW.out _ hb0).2.2.2⟩

end Go.Proofs.YtiopcdbginnflaaDoor
