/- The document's files compared, walked. -/
import Derived.Test.YtiofhfcohhfihaaGreatDoorSxSameR2
namespace Go.Proofs.YtiofhfcohhfihaaGreatDoor
open Go.RowKit
set_option linter.unusedVariables false
set_option linter.unusedSimpArgs false

theorem fSxSameR3A12_68 {P : Program} {md : Region.Mode} {ops : Array Oper} {Q : Exit → Act → World → Prop} {P0 P1 : World → Prop} {fin fuel : Nat} {b0 b1 b2 b3 b4 b5 b6 b7 b8 b9 b10 b11 : Bool} {x0 x1 x2 x3 x4 x5 x6 x7 x8 x9 x10 x11 x12 x13 x14 x15 x16 x17 x18 x19 x20 x21 x22 x23 x24 x25 x26 x27 x28 x29 x30 x31 x32 x33 x34 x35 x36 x37 x38 x39 x40 x41 x42 x43 x44 x45 x46 x47 x48 x49 x50 x51 x52 x53 x54 x55 x56 x57 x58 x59 x60 x61 x62 x63 x64 x65 x66 x67 : Value} {d} {w : World} (h : wpAnyG P md ops Q P0 P1 fin fuel #[b0, b1, b2, b3, b4, b5, b6, b7, b8, b9, b10, b11] ⟨#[x0, x1, x2, x3, x4, x5, x6, x7, x8, x9, x10, x11, x12, x13, x14, x15, x16, x17, x18, x19, x20, x21, x22, x23, x24, x25, x26, x27, x28, x29, x30, x31, x32, x33, x34, x35, x36, x37, x38, x39, x40, x41, x42, x43, x44, x45, x46, x47, x48, x49, x50, x51, x52, x53, x54, x55, x56, x57, x58, x59, x60, x61, x62, x63, x64, x65, x66, x67], d⟩ w) : wpAnyG P md ops Q P0 P1 fin fuel #[b0, b1, b2, b3, b4, b5, b6, b7, b8, b9, b10, b11] ⟨#[x0, x1, x2, x3, x4, x5, x6, x7, x8, x9, x10, x11, x12, x13, x14, x15, x16, x17, x18, x19, x20, x21, x22, x23, x24, x25, x26, x27, x28, x29, x30, x31, x32, x33, x34, x35, x36, x37, x38, x39, x40, x41, x42, x43, x44, x45, x46, x47, x48, x49, x50, x51, x52, x53, x54, x55, x56, x57, x58, x59, x60, x61, x62, x63, x64, x65, x66, x67], d⟩ w := h


set_option maxHeartbeats 32000000 in
set_option maxRecDepth 100000 in
theorem rSame_any (a b : Sx.Fil) (ca cb : List Value) (w : World) (ha : FilR (frag w) a ca) (hb : FilR (frag w) b cb) :
    Calls Tryz.prog 16 #[.agg ca.toArray, .agg cb.toArray] w fun e w' => e = .returned (.bool (Sx.sameL a b)) ∧ Below w.heap.size w w' := by
  obtain ⟨D, hD⟩ : ∃ D, D = Sx.sameL a b := ⟨_, rfl⟩
  rw [← hD]
  have HDf : Hid (a ≠ b → D = false) := Lib.hid (fun h => by rw [hD]; exact sameL_false h)
  have HDt : Hid (a = b → D = true) := Lib.hid (fun h => by rw [hD, h]; exact Sx.sameL_refl b)
  clear hD
  obtain ⟨nm, ms, es⟩ := a
  obtain ⟨nm2, ms2, es2⟩ := b
  obtain ⟨v1, v2, cs1, cs2, hca, ⟨p1, p2⟩, r1, r2⟩ := ha
  obtain ⟨u1, u2, ds1, ds2, hcb, ⟨s1, s2⟩, t1, t2⟩ := hb
  dsimp only at hca hcb r1 r2 t1 t2
  obtain ⟨a1, c1, x1, _, _, _⟩ := p1.1.len
  obtain ⟨b1, e1, y1, _, _, _⟩ := s1.1.len
  obtain ⟨a2, c2, x2, _, _, _⟩ := p2.1.len
  obtain ⟨b2, e2, y2, _, _, _⟩ := s2.1.len
  subst x1 y1 x2 y2 hca hcb
  have HP1 := Lib.hid p1.1; have HS1 := Lib.hid s1.1
  have hbd1 := p1.2
  have HRa1 := Lib.hid r1; have HRb1 := Lib.hid t1
  have HP2 := Lib.hid p2.1; have HS2 := Lib.hid s2.1
  have hbd2 := p2.2
  have HRa2 := Lib.hid r2; have HRb2 := Lib.hid t2
  obtain ⟨n1, hn1⟩ : ∃ z, z = cs1.length := ⟨_, rfl⟩
  obtain ⟨m1, hm1⟩ : ∃ z, z = ds1.length := ⟨_, rfl⟩
  rw [← hn1] at HP1 hbd1
  rw [← hm1] at HS1
  obtain ⟨n2, hn2⟩ : ∃ z, z = cs2.length := ⟨_, rfl⟩
  obtain ⟨m2, hm2⟩ : ∃ z, z = ds2.length := ⟨_, rfl⟩
  rw [← hn2] at HP2 hbd2
  rw [← hm2] at HS2
  rw [← hn1, ← hn2, ← hm1, ← hm2]
  have Hn1 := Lib.hid hn1.symm; have Hm1 := Lib.hid hm1.symm; have Hbd1 := Lib.hid hbd1
  have Hn2 := Lib.hid hn2.symm; have Hm2 := Lib.hid hm2.symm; have Hbd2 := Lib.hid hbd2
  clear p1 s1 hbd1 hn1 hm1 p2 s2 hbd2 hn2 hm2 r1 t1 r2 t2
  by_cases h : nm = nm2
  · subst h
    by_cases h : n1 = m1
    · subst h
      by_cases h : n2 = m2
      · subst h
        go_enter Tryz.func16, Tryz.ntmps16
        go_upto_region 1 with (first
          | (refine wpList_box_first 40 _ rfl rfl [.string (toB nm), .slice a1 n1 c1, .slice a2 n2 c2] rfl ?_; (intro w1 g1 hg1 hB1 hb1))
          | (refine wpList_box_first 40 _ rfl rfl [.string (toB nm), .slice b1 n1 e1, .slice b2 n2 e2] rfl ?_; (intro w2 g2 hg2 hB2 hb2; have HB : Hid (Blk w2 g1 [.string (toB nm), .slice a1 n1 c1, .slice a2 n2 c2] ∧ Blk w2 g2 [.string (toB nm), .slice b1 n1 e1, .slice b2 n2 e2]) := Lib.hid ⟨hB1.below hb2 hB1.lt, hB2⟩; have HW : Hid (Below w.heap.size w w2) := Lib.hid (hb1.trans (hb2.mono hb1.size)); clear hB1 hb1 hB2 hb2 hg1 hg2; have x0 := HB.out.1.cell (o := 0) rfl; have y0 := HB.out.2.cell (o := 0) rfl; have x1 := HB.out.1.cell (o := 1) rfl; have y1 := HB.out.2.cell (o := 1) rfl; have x2 := HB.out.1.cell (o := 2) rfl; have y2 := HB.out.2.cell (o := 2) rfl)))
        go_upto_region 3 with fail
        clear x0 y0 x1 y1 x2 y2
        have xq := HB.out.1.cell (o := 1) (u := .slice a1 n1 c1) rfl
        have hns1 : n1 ≤ 9223372036854775807 := by have := Hbd1.out; omega
        go_wp2_with fail
        clear xq
        go_loopw [33] (fun iv wr => ∃ k : Nat, k ≤ n1 ∧ iv = .int .i64 k ∧ Hid (ms.take k = ms2.take k) ∧ Hid (Blk wr g1 [.string (toB nm), .slice a1 n1 c1, .slice a2 n2 c2] ∧ Blk wr g2 [.string (toB nm), .slice b1 n1 e1, .slice b2 n2 e2]) ∧ Hid (Below w.heap.size w wr)) (fun iv _ => n1 - (intOf iv).toNat)
        case atStart => exact ⟨0, Nat.zero_le _, rfl, Lib.hid rfl, HB, HW⟩
        case round =>
          obtain ⟨k, hkn, rfl, HT, HB, HW⟩ := hrel
          by_cases hlt : k < n1
          · have hs1 : k < cs1.length := by rw [Hn1.out]; exact hlt
            have hs2 : k < ds1.length := by rw [Hm1.out]; exact hlt
            have hk1 : k < ms.length := by rw [← HRa1.out.len]; exact hs1
            have hk2 : k < ms2.length := by rw [← HRb1.out.len]; exact hs2
            obtain ⟨d0, o0, hd0, hidx0, hcell0⟩ := FlatC.at (n := n1) (cap := c1) (a := a1) (HP1.out.mono (below_le HW.out)) (by decide) (i := k) hs1 Tryz.underlying37 sizeRM
            obtain ⟨d1, o1, hd1, hidx1, hcell1⟩ := FlatC.at (n := n1) (cap := e1) (a := b1) (HS1.out.mono (below_le HW.out)) (by decide) (i := k) hs2 Tryz.underlying37 sizeRM
            have hrd1 := HRa1.out.at hk1 hs1
            have hrd2 := HRb1.out.at hk2 hs2
            have hr0 : wr.rangeAt d0 o0 cs1[k] := hcell0
            have hr1 : wr.rangeAt d1 o1 ds1[k] := hcell1
            have hT1 := List.take_succ_eq_append_getElem hk1
            have hT2 := List.take_succ_eq_append_getElem hk2
            have HNx : Hid (ms[k] = ms2[k] → ms.take (k + 1) = ms2.take (k + 1)) := Lib.hid (fun e => by rw [hT1, hT2, HT.out, e])
            have HNo : Hid (ms[k] ≠ ms2[k] → D = false) := Lib.hid (fun h => HDf.out (fun e => by injection e with j0 j1 j2; exact take_ne hk1 hk2 h j1))
            clear hcell0 hcell1 hT1 hT2
            generalize ms[k] = x at *
            generalize ms2[k] = y at *
            generalize cs1[k] = xc at *
            generalize ds1[k] = yc at *
            have Hr1 := Lib.hid hrd1; have Hr2 := Lib.hid hrd2; have Hx := Lib.hid hrd1.size; have Hy := Lib.hid hrd2.size
            clear hrd1 hrd2 hs1 hs2
            have hP : (Blk wr.drew g1 [.string (toB nm), .slice a1 n1 c1, .slice a2 n2 c2] ∧ Blk wr.drew g2 [.string (toB nm), .slice b1 n1 e1, .slice b2 n2 e2]) ∧ (wr.drew.rangeAt d0 o0 xc ∧ wr.drew.rangeAt d1 o1 yc) := ⟨HB.out, hr0, hr1⟩
            clear hr0 hr1 hk1 hk2
            have HC := Lib.hid (rSameMsg_any x y xc yc wr.drew (Hr1.out.mono (below_le (HW.out.drew))) (Hr2.out.mono (below_le (HW.out.drew))))
            obtain ⟨d, hd⟩ : ∃ d, d = Sx.sameM x y := ⟨_, rfl⟩
            rw [← hd] at HC
            have Hd := Lib.hid hd
            clear hd
            go_wp2_with fail
            refine wp_region_G 10 (fun _ => True) (fun w' => (Blk w' g1 [.string (toB nm), .slice a1 n1 c1, .slice a2 n2 c2] ∧ Blk w' g2 [.string (toB nm), .slice b1 n1 e1, .slice b2 n2 e2]) ∧ (w'.rangeAt d0 o0 xc ∧ w'.rangeAt d1 o1 yc)) (by kernel_rfl) trivial hP (fun _ => ?_)
            refine wpAnyG_take (i := 0) (v := .pointer (some ⟨g1, 1, none⟩)) rfl (by kernel_rfl) (fun _ _ _ h => h) (.inl ⟨by rfl, fun w hw => by go_simp⟩) (InvG.mk trivial hP) ?_
            refine fSxSameR3A12_68 ?_
            refine wpAnyG_take (i := 1) (v := .slice a1 n1 c1) rfl (by kernel_rfl) (fun _ _ _ h => h) (.inl ⟨by rfl, fun w hw => by have hc := hw.2.1.1.cell (o := 1) (u := .slice a1 n1 c1) rfl; clear hw; go_simp⟩) (InvG.mk trivial hP) ?_
            refine fSxSameR3A12_68 ?_
            refine wpAnyG_take (i := 2) (v := .int .i64 k) rfl (by kernel_rfl) (fun _ _ _ h => h) (.inl ⟨by rfl, fun w hw => by go_simp⟩) (InvG.mk trivial hP) ?_
            refine fSxSameR3A12_68 ?_
            refine wpAnyG_take (i := 3) (v := .pointer (some ⟨d0, o0, none⟩)) rfl (by kernel_rfl) (fun _ _ _ h => h) (.inl ⟨by rfl, fun w hw => by have hi := hidx0; clear hw; go_simp⟩) (InvG.mk trivial hP) ?_
            refine fSxSameR3A12_68 ?_
            refine wpAnyG_take (i := 4) (v := .agg xc.toArray) rfl (by kernel_rfl) (fun _ _ _ h => h) (yieldsIf_load_mid (by rfl) 102 _ rfl d0 o0 (by go_simp) xc _ (fun w h => h.2.2.1) Tryz.underlying102 rfl (by rw [Hx.out]; exact infoRM)) (InvG.mk trivial hP) ?_
            refine fSxSameR3A12_68 ?_
            refine wpAnyG_take (i := 5) (v := .pointer (some ⟨g2, 1, none⟩)) rfl (by kernel_rfl) (fun _ _ _ h => h) (.inl ⟨by rfl, fun w hw => by go_simp⟩) (InvG.mk trivial hP) ?_
            refine fSxSameR3A12_68 ?_
            refine wpAnyG_take (i := 6) (v := .slice b1 n1 e1) rfl (by kernel_rfl) (fun _ _ _ h => h) (.inl ⟨by rfl, fun w hw => by have hc := hw.2.1.2.cell (o := 1) (u := .slice b1 n1 e1) rfl; clear hw; go_simp⟩) (InvG.mk trivial hP) ?_
            refine fSxSameR3A12_68 ?_
            refine wpAnyG_take (i := 7) (v := .int .i64 k) rfl (by kernel_rfl) (fun _ _ _ h => h) (.inl ⟨by rfl, fun w hw => by go_simp⟩) (InvG.mk trivial hP) ?_
            refine fSxSameR3A12_68 ?_
            refine wpAnyG_take (i := 8) (v := .pointer (some ⟨d1, o1, none⟩)) rfl (by kernel_rfl) (fun _ _ _ h => h) (.inl ⟨by rfl, fun w hw => by have hi := hidx1; clear hw; go_simp⟩) (InvG.mk trivial hP) ?_
            refine fSxSameR3A12_68 ?_
            refine wpAnyG_take (i := 9) (v := .agg yc.toArray) rfl (by kernel_rfl) (fun _ _ _ h => h) (yieldsIf_load_mid (by rfl) 102 _ rfl d1 o1 (by go_simp) yc _ (fun w h => h.2.2.2) Tryz.underlying102 rfl (by rw [Hy.out]; exact infoRM)) (InvG.mk trivial hP) ?_
            refine fSxSameR3A12_68 ?_
            refine wpAnyG_ready (rs := [10]) (by kernel_rfl) (by simp) ?_
            refine AllReadyG.plain rfl rfl (fun K hK => ?_) AllReadyG.nil
            go_simp
            refine HC.out.mono ?_
            rintro e w7 ⟨rfl, hb7⟩
            have HW7 : Hid (Below w.heap.size w w7) := Lib.hid (HW.out.drew.trans (hb7.mono HW.out.drew.size))
            have HB7 : Hid (Blk w7 g1 [.string (toB nm), .slice a1 n1 c1, .slice a2 n2 c2] ∧ Blk w7 g2 [.string (toB nm), .slice b1 n1 e1, .slice b2 n2 e2]) := Lib.hid ⟨Blk.below (w := wr.drew) HB.out.1 hb7 HB.out.1.lt, Blk.below (w := wr.drew) HB.out.2 hb7 HB.out.2.lt⟩
            refine hK.out _ _ (InvG.past trivial (by kernel_rfl)) (fun _ => ?_)
            clear hK hb7
            refine fSxSameR3A12_68 ?_
            refine wpAnyG_take0 (i := 11) (v := .bool (!d)) rfl (by kernel_rfl) (fun _ _ _ h => h) (.inl ⟨by rfl, fun w hw => by go_simp⟩) (InvG.past trivial (by kernel_rfl)) ?_
            refine fSxSameR3A12_68 ?_
            refine wpAnyG_done (by kernel_rfl) ?_ _
            clear hP hidx0 hidx1
            cases d
            · have HDq := Lib.hid (HNo.out (fun e => by have h1 := Hd.out; rw [e] at h1; rw [Sx.sameM_refl] at h1; cases h1))
              clear HNx HNo Hd
              go_wp2_with fail
              go_ret
              rw [HDq.out]
              exact ⟨rfl, HW7.out⟩
            · have HTn := Lib.hid (HNx.out (Sx.sameM_eq _ _ Hd.out.symm))
              clear HNx HNo Hd
              go_wp2_with fail
              go_roundw
              case rel => exact ⟨k + 1, by omega, by go_num, HTn, HB7, HW7⟩
              case measure => simp [intOf]; omega
          · obtain rfl : n1 = k := by omega
            have He1 : Hid (ms = ms2) := Lib.hid (take_eq_all HT.out (by rw [← HRa1.out.len]; exact Hn1.out) (by rw [← HRb1.out.len]; exact Hm1.out))
            clear HT hlt hkn
            have xq := HB.out.1.cell (o := 2) (u := .slice a2 n2 c2) rfl
            have hns2 : n2 ≤ 9223372036854775807 := by have := Hbd2.out; omega
            go_wp2_with fail
            clear xq
            go_loopw [52] (fun iv wr => ∃ k : Nat, k ≤ n2 ∧ iv = .int .i64 k ∧ Hid (es.take k = es2.take k) ∧ Hid (Blk wr g1 [.string (toB nm), .slice a1 n1 c1, .slice a2 n2 c2] ∧ Blk wr g2 [.string (toB nm), .slice b1 n1 e1, .slice b2 n2 e2]) ∧ Hid (Below w.heap.size w wr)) (fun iv _ => n2 - (intOf iv).toNat)
            case atStart => exact ⟨0, Nat.zero_le _, rfl, Lib.hid rfl, HB, HW⟩
            case round =>
              obtain ⟨k, hkn, rfl, HT, HB, HW⟩ := hrel
              by_cases hlt : k < n2
              · have hs1 : k < cs2.length := by rw [Hn2.out]; exact hlt
                have hs2 : k < ds2.length := by rw [Hm2.out]; exact hlt
                have hk1 : k < es.length := by rw [← HRa2.out.len]; exact hs1
                have hk2 : k < es2.length := by rw [← HRb2.out.len]; exact hs2
                obtain ⟨d0, o0, hd0, hidx0, hcell0⟩ := FlatC.at (n := n2) (cap := c2) (a := a2) (HP2.out.mono (below_le HW.out)) (by decide) (i := k) hs1 Tryz.underlying38 sizeRE
                obtain ⟨d1, o1, hd1, hidx1, hcell1⟩ := FlatC.at (n := n2) (cap := e2) (a := b2) (HS2.out.mono (below_le HW.out)) (by decide) (i := k) hs2 Tryz.underlying38 sizeRE
                have hrd1 := HRa2.out.at hk1 hs1
                have hrd2 := HRb2.out.at hk2 hs2
                have hr0 : wr.rangeAt d0 o0 cs2[k] := hcell0
                have hr1 : wr.rangeAt d1 o1 ds2[k] := hcell1
                have hT1 := List.take_succ_eq_append_getElem hk1
                have hT2 := List.take_succ_eq_append_getElem hk2
                have HNx : Hid (es[k] = es2[k] → es.take (k + 1) = es2.take (k + 1)) := Lib.hid (fun e => by rw [hT1, hT2, HT.out, e])
                have HNo : Hid (es[k] ≠ es2[k] → D = false) := Lib.hid (fun h => HDf.out (fun e => by injection e with j0 j1 j2; exact take_ne hk1 hk2 h j2))
                clear hcell0 hcell1 hT1 hT2
                generalize es[k] = x at *
                generalize es2[k] = y at *
                generalize cs2[k] = xc at *
                generalize ds2[k] = yc at *
                have Hr1 := Lib.hid hrd1; have Hr2 := Lib.hid hrd2; have Hx := Lib.hid hrd1.size; have Hy := Lib.hid hrd2.size
                clear hrd1 hrd2 hs1 hs2
                have hP : (Blk wr.drew g1 [.string (toB nm), .slice a1 n1 c1, .slice a2 n2 c2] ∧ Blk wr.drew g2 [.string (toB nm), .slice b1 n1 e1, .slice b2 n2 e2]) ∧ (wr.drew.rangeAt d0 o0 xc ∧ wr.drew.rangeAt d1 o1 yc) := ⟨HB.out, hr0, hr1⟩
                clear hr0 hr1 hk1 hk2
                have HC := Lib.hid (rSameEnum_any x y xc yc wr.drew (Hr1.out.mono (below_le (HW.out.drew))) (Hr2.out.mono (below_le (HW.out.drew))))
                obtain ⟨d, hd⟩ : ∃ d, d = decide (x = y) := ⟨_, rfl⟩
                rw [← hd] at HC
                have Hd := Lib.hid hd
                clear hd
                go_wp2_with fail
                refine wp_region_G 10 (fun _ => True) (fun w' => (Blk w' g1 [.string (toB nm), .slice a1 n1 c1, .slice a2 n2 c2] ∧ Blk w' g2 [.string (toB nm), .slice b1 n1 e1, .slice b2 n2 e2]) ∧ (w'.rangeAt d0 o0 xc ∧ w'.rangeAt d1 o1 yc)) (by kernel_rfl) trivial hP (fun _ => ?_)
                refine wpAnyG_take (i := 0) (v := .pointer (some ⟨g1, 2, none⟩)) rfl (by kernel_rfl) (fun _ _ _ h => h) (.inl ⟨by rfl, fun w hw => by go_simp⟩) (InvG.mk trivial hP) ?_
                refine fSxSameR3A12_68 ?_
                refine wpAnyG_take (i := 1) (v := .slice a2 n2 c2) rfl (by kernel_rfl) (fun _ _ _ h => h) (.inl ⟨by rfl, fun w hw => by have hc := hw.2.1.1.cell (o := 2) (u := .slice a2 n2 c2) rfl; clear hw; go_simp⟩) (InvG.mk trivial hP) ?_
                refine fSxSameR3A12_68 ?_
                refine wpAnyG_take (i := 2) (v := .int .i64 k) rfl (by kernel_rfl) (fun _ _ _ h => h) (.inl ⟨by rfl, fun w hw => by go_simp⟩) (InvG.mk trivial hP) ?_
                refine fSxSameR3A12_68 ?_
                refine wpAnyG_take (i := 3) (v := .pointer (some ⟨d0, o0, none⟩)) rfl (by kernel_rfl) (fun _ _ _ h => h) (.inl ⟨by rfl, fun w hw => by have hi := hidx0; clear hw; go_simp⟩) (InvG.mk trivial hP) ?_
                refine fSxSameR3A12_68 ?_
                refine wpAnyG_take (i := 4) (v := .agg xc.toArray) rfl (by kernel_rfl) (fun _ _ _ h => h) (yieldsIf_load_mid (by rfl) 106 _ rfl d0 o0 (by go_simp) xc _ (fun w h => h.2.2.1) Tryz.underlying106 rfl (by rw [Hx.out]; exact infoRE)) (InvG.mk trivial hP) ?_
                refine fSxSameR3A12_68 ?_
                refine wpAnyG_take (i := 5) (v := .pointer (some ⟨g2, 2, none⟩)) rfl (by kernel_rfl) (fun _ _ _ h => h) (.inl ⟨by rfl, fun w hw => by go_simp⟩) (InvG.mk trivial hP) ?_
                refine fSxSameR3A12_68 ?_
                refine wpAnyG_take (i := 6) (v := .slice b2 n2 e2) rfl (by kernel_rfl) (fun _ _ _ h => h) (.inl ⟨by rfl, fun w hw => by have hc := hw.2.1.2.cell (o := 2) (u := .slice b2 n2 e2) rfl; clear hw; go_simp⟩) (InvG.mk trivial hP) ?_
                refine fSxSameR3A12_68 ?_
                refine wpAnyG_take (i := 7) (v := .int .i64 k) rfl (by kernel_rfl) (fun _ _ _ h => h) (.inl ⟨by rfl, fun w hw => by go_simp⟩) (InvG.mk trivial hP) ?_
                refine fSxSameR3A12_68 ?_
                refine wpAnyG_take (i := 8) (v := .pointer (some ⟨d1, o1, none⟩)) rfl (by kernel_rfl) (fun _ _ _ h => h) (.inl ⟨by rfl, fun w hw => by have hi := hidx1; clear hw; go_simp⟩) (InvG.mk trivial hP) ?_
                refine fSxSameR3A12_68 ?_
                refine wpAnyG_take (i := 9) (v := .agg yc.toArray) rfl (by kernel_rfl) (fun _ _ _ h => h) (yieldsIf_load_mid (by rfl) 106 _ rfl d1 o1 (by go_simp) yc _ (fun w h => h.2.2.2) Tryz.underlying106 rfl (by rw [Hy.out]; exact infoRE)) (InvG.mk trivial hP) ?_
                refine fSxSameR3A12_68 ?_
                refine wpAnyG_ready (rs := [10]) (by kernel_rfl) (by simp) ?_
                refine AllReadyG.plain rfl rfl (fun K hK => ?_) AllReadyG.nil
                go_simp
                refine HC.out.mono ?_
                rintro e w7 ⟨rfl, hb7⟩
                have HW7 : Hid (Below w.heap.size w w7) := Lib.hid (HW.out.drew.trans (hb7.mono HW.out.drew.size))
                have HB7 : Hid (Blk w7 g1 [.string (toB nm), .slice a1 n1 c1, .slice a2 n2 c2] ∧ Blk w7 g2 [.string (toB nm), .slice b1 n1 e1, .slice b2 n2 e2]) := Lib.hid ⟨Blk.below (w := wr.drew) HB.out.1 hb7 HB.out.1.lt, Blk.below (w := wr.drew) HB.out.2 hb7 HB.out.2.lt⟩
                refine hK.out _ _ (InvG.past trivial (by kernel_rfl)) (fun _ => ?_)
                clear hK hb7
                refine fSxSameR3A12_68 ?_
                refine wpAnyG_take0 (i := 11) (v := .bool (!d)) rfl (by kernel_rfl) (fun _ _ _ h => h) (.inl ⟨by rfl, fun w hw => by go_simp⟩) (InvG.past trivial (by kernel_rfl)) ?_
                refine fSxSameR3A12_68 ?_
                refine wpAnyG_done (by kernel_rfl) ?_ _
                clear hP hidx0 hidx1
                cases d
                · have HDq := Lib.hid (HNo.out (fun e => by have h1 := Hd.out; rw [e] at h1; simp at h1))
                  clear HNx HNo Hd
                  go_wp2_with fail
                  go_ret
                  rw [HDq.out]
                  exact ⟨rfl, HW7.out⟩
                · have HTn := Lib.hid (HNx.out (of_decide_eq_true Hd.out.symm))
                  clear HNx HNo Hd
                  go_wp2_with fail
                  go_roundw
                  case rel => exact ⟨k + 1, by omega, by go_num, HTn, HB7, HW7⟩
                  case measure => simp [intOf]; omega
              · obtain rfl : n2 = k := by omega
                have He2 : Hid (es = es2) := Lib.hid (take_eq_all HT.out (by rw [← HRa2.out.len]; exact Hn2.out) (by rw [← HRb2.out.len]; exact Hm2.out))
                clear HT hlt hkn
                have HDq := Lib.hid (HDt.out (by rw [He1.out, He2.out]))
                go_wp2_with fail
                go_ret
                rw [HDq.out]
                exact ⟨rfl, HW.out⟩
      · have q1 : ¬ ((n2 : Nat) : Int) = ((m2 : Nat) : Int) := by omega
        have q2 : (((n2 : Nat) : Int) == ((m2 : Nat) : Int)) = false := beq_eq_false_iff_ne.2 q1
        have q3 : (((n2 : Nat) : Int) != ((m2 : Nat) : Int)) = true := by rw [bne, q2]; rfl
        have HDq := Lib.hid (HDf.out (fun e => by injection e with j0 j1 j2; exact h (by rw [← Hn2.out, ← Hm2.out, HRa2.out.len, HRb2.out.len, j2])))
        go_enter Tryz.func16, Tryz.ntmps16
        go_upto_region 1 with (first
          | (refine wpList_box_first 40 _ rfl rfl [.string (toB nm), .slice a1 n1 c1, .slice a2 n2 c2] rfl ?_; (intro w1 g1 hg1 hB1 hb1))
          | (refine wpList_box_first 40 _ rfl rfl [.string (toB nm), .slice b1 n1 e1, .slice b2 m2 e2] rfl ?_; (intro w2 g2 hg2 hB2 hb2; have HB : Hid (Blk w2 g1 [.string (toB nm), .slice a1 n1 c1, .slice a2 n2 c2] ∧ Blk w2 g2 [.string (toB nm), .slice b1 n1 e1, .slice b2 m2 e2]) := Lib.hid ⟨hB1.below hb2 hB1.lt, hB2⟩; have HW : Hid (Below w.heap.size w w2) := Lib.hid (hb1.trans (hb2.mono hb1.size)); clear hB1 hb1 hB2 hb2 hg1 hg2; have x0 := HB.out.1.cell (o := 0) rfl; have y0 := HB.out.2.cell (o := 0) rfl; have x1 := HB.out.1.cell (o := 1) rfl; have y1 := HB.out.2.cell (o := 1) rfl; have x2 := HB.out.1.cell (o := 2) rfl; have y2 := HB.out.2.cell (o := 2) rfl)))
        go_wp2_with fail
        go_ret
        rw [HDq.out]
        exact ⟨rfl, HW.out⟩
    · have q1 : ¬ ((n1 : Nat) : Int) = ((m1 : Nat) : Int) := by omega
      have q2 : (((n1 : Nat) : Int) == ((m1 : Nat) : Int)) = false := beq_eq_false_iff_ne.2 q1
      have q3 : (((n1 : Nat) : Int) != ((m1 : Nat) : Int)) = true := by rw [bne, q2]; rfl
      have HDq := Lib.hid (HDf.out (fun e => by injection e with j0 j1 j2; exact h (by rw [← Hn1.out, ← Hm1.out, HRa1.out.len, HRb1.out.len, j1])))
      go_enter Tryz.func16, Tryz.ntmps16
      go_upto_region 1 with (first
        | (refine wpList_box_first 40 _ rfl rfl [.string (toB nm), .slice a1 n1 c1, .slice a2 n2 c2] rfl ?_; (intro w1 g1 hg1 hB1 hb1))
        | (refine wpList_box_first 40 _ rfl rfl [.string (toB nm), .slice b1 m1 e1, .slice b2 m2 e2] rfl ?_; (intro w2 g2 hg2 hB2 hb2; have HB : Hid (Blk w2 g1 [.string (toB nm), .slice a1 n1 c1, .slice a2 n2 c2] ∧ Blk w2 g2 [.string (toB nm), .slice b1 m1 e1, .slice b2 m2 e2]) := Lib.hid ⟨hB1.below hb2 hB1.lt, hB2⟩; have HW : Hid (Below w.heap.size w w2) := Lib.hid (hb1.trans (hb2.mono hb1.size)); clear hB1 hb1 hB2 hb2 hg1 hg2; have x0 := HB.out.1.cell (o := 0) rfl; have y0 := HB.out.2.cell (o := 0) rfl; have x1 := HB.out.1.cell (o := 1) rfl; have y1 := HB.out.2.cell (o := 1) rfl; have x2 := HB.out.1.cell (o := 2) rfl; have y2 := HB.out.2.cell (o := 2) rfl)))
      go_wp2_with fail
      go_ret
      rw [HDq.out]
      exact ⟨rfl, HW.out⟩
  · have q1 := toB_beq nm nm2
    rw [decide_eq_false h] at q1
    have HDq := Lib.hid (HDf.out (fun e => by injection e with j0 j1 j2; exact h j0))
    go_enter Tryz.func16, Tryz.ntmps16
    go_upto_region 1 with (first
      | (refine wpList_box_first 40 _ rfl rfl [.string (toB nm), .slice a1 n1 c1, .slice a2 n2 c2] rfl ?_; (intro w1 g1 hg1 hB1 hb1))
      | (refine wpList_box_first 40 _ rfl rfl [.string (toB nm2), .slice b1 m1 e1, .slice b2 m2 e2] rfl ?_; (intro w2 g2 hg2 hB2 hb2; have HB : Hid (Blk w2 g1 [.string (toB nm), .slice a1 n1 c1, .slice a2 n2 c2] ∧ Blk w2 g2 [.string (toB nm2), .slice b1 m1 e1, .slice b2 m2 e2]) := Lib.hid ⟨hB1.below hb2 hB1.lt, hB2⟩; have HW : Hid (Below w.heap.size w w2) := Lib.hid (hb1.trans (hb2.mono hb1.size)); clear hB1 hb1 hB2 hb2 hg1 hg2; have x0 := HB.out.1.cell (o := 0) rfl; have y0 := HB.out.2.cell (o := 0) rfl; have x1 := HB.out.1.cell (o := 1) rfl; have y1 := HB.out.2.cell (o := 1) rfl; have x2 := HB.out.1.cell (o := 2) rfl; have y2 := HB.out.2.cell (o := 2) rfl)))
    go_wp2_with fail
    go_ret
    rw [HDq.out]
    exact ⟨rfl, HW.out⟩

end Go.Proofs.YtiofhfcohhfihaaGreatDoor
