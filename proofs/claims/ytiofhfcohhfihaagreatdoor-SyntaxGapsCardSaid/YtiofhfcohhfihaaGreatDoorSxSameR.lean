/- The document's files compared, walked. -/
import Derived.Test.YtiofhfcohhfihaaGreatDoorSxSameP
namespace Go.Proofs.YtiofhfcohhfihaaGreatDoor
open Go.RowKit
set_option linter.unusedVariables false
set_option linter.unusedSimpArgs false

theorem fSxSameRA11_52 {P : Program} {md : Region.Mode} {ops : Array Oper} {Q : Exit → Act → World → Prop} {P0 P1 : World → Prop} {fin fuel : Nat} {b0 b1 b2 b3 b4 b5 b6 b7 b8 b9 b10 : Bool} {x0 x1 x2 x3 x4 x5 x6 x7 x8 x9 x10 x11 x12 x13 x14 x15 x16 x17 x18 x19 x20 x21 x22 x23 x24 x25 x26 x27 x28 x29 x30 x31 x32 x33 x34 x35 x36 x37 x38 x39 x40 x41 x42 x43 x44 x45 x46 x47 x48 x49 x50 x51 : Value} {d} {w : World} (h : wpAnyG P md ops Q P0 P1 fin fuel #[b0, b1, b2, b3, b4, b5, b6, b7, b8, b9, b10] ⟨#[x0, x1, x2, x3, x4, x5, x6, x7, x8, x9, x10, x11, x12, x13, x14, x15, x16, x17, x18, x19, x20, x21, x22, x23, x24, x25, x26, x27, x28, x29, x30, x31, x32, x33, x34, x35, x36, x37, x38, x39, x40, x41, x42, x43, x44, x45, x46, x47, x48, x49, x50, x51], d⟩ w) : wpAnyG P md ops Q P0 P1 fin fuel #[b0, b1, b2, b3, b4, b5, b6, b7, b8, b9, b10] ⟨#[x0, x1, x2, x3, x4, x5, x6, x7, x8, x9, x10, x11, x12, x13, x14, x15, x16, x17, x18, x19, x20, x21, x22, x23, x24, x25, x26, x27, x28, x29, x30, x31, x32, x33, x34, x35, x36, x37, x38, x39, x40, x41, x42, x43, x44, x45, x46, x47, x48, x49, x50, x51], d⟩ w := h

theorem wpList_box_first {P : Program} {ops : Array Oper} {rest : List Oper} {op : Oper} {a : Act} {w : World} {Q : Exit → Act → World → Prop} (ty : TypeId) (x : Operand) (ho : op.op = .box ty x) (hgd : op.guard = none) (cs : List Value) (hx : a.eval x = .agg cs.toArray)
    (h : ∀ w2 g, w.heap.size ≤ g → Blk w2 g cs → Below w.heap.size w w2 → wpList P ops Q rest (a.put op.dst (.pointer (some ⟨g, 0, none⟩))) w2) : wpList P ops Q (op :: rest) a w :=
  wpList_box_lay (by simp [Region.wanted, hgd]) ty x ho cs hx h
theorem wpList_val {P : Program} {ops : Array Oper} {rest : List Oper} {o : Oper} {a : Act} {w : World} {Q : Exit → Act → World → Prop} (v : Value) (hw : Region.wanted o (yielded ops a.tmps) = true) (hv : (execOp a.eval o).run P w = .ok (.value v) w)
    (h : wpList P ops Q rest (a.put o.dst v) w) : wpList P ops Q (o :: rest) a w :=
  BigFrame.wpList_want hw (fun K hK => by unfold Oper.wp; rw [hv]; exact hK _ _ h)
theorem sameM_false {a b : Sx.Msg} (h : a ≠ b) : Sx.sameM a b = false := by
  cases hs : Sx.sameM a b with
  | false => rfl
  | true => exact absurd (Sx.sameM_eq _ _ hs) h
theorem sameL_false {a b : Sx.Fil} (h : a ≠ b) : Sx.sameL a b = false := by
  cases hs : Sx.sameL a b with
  | false => rfl
  | true =>
    unfold Sx.sameL at hs
    simp only [Bool.and_eq_true, decide_eq_true_iff] at hs
    obtain ⟨⟨h1, h2⟩, h3⟩ := hs
    have h2 := Sx.sameMs_eq _ _ h2
    cases a; cases b
    simp_all

set_option maxHeartbeats 32000000 in
set_option maxRecDepth 100000 in
theorem rSameEnum_any (a b : Sx.Enm) (ca cb : List Value) (w : World) (ha : EnmR (frag w) a ca) (hb : EnmR (frag w) b cb) :
    Calls Tryz.prog 46 #[.agg ca.toArray, .agg cb.toArray] w fun e w' => e = .returned (.bool (decide (a = b))) ∧ Below w.heap.size w w' := by
  obtain ⟨D, hD⟩ : ∃ D, D = decide (a = b) := ⟨_, rfl⟩
  rw [← hD]
  have HDf : Hid (a ≠ b → D = false) := Lib.hid (fun h => by rw [hD]; exact decide_eq_false h)
  have HDt : Hid (a = b → D = true) := Lib.hid (fun h => by rw [hD]; exact decide_eq_true h)
  clear hD
  obtain ⟨nm, vs, li, co⟩ := a
  obtain ⟨nm2, vs2, li2, co2⟩ := b
  obtain ⟨v1, hca, p1⟩ := ha
  obtain ⟨u1, hcb, s1⟩ := hb
  dsimp only at hca hcb p1 s1
  obtain ⟨a1, c1, x1, _, _, _⟩ := p1.1.len
  obtain ⟨b1, e1, y1, _, _, _⟩ := s1.1.len
  subst x1 y1 hca hcb
  have HP1 := Lib.hid p1.1; have HS1 := Lib.hid s1.1
  have hbd1 := p1.2
  obtain ⟨n1, hn1⟩ : ∃ z, z = vs.length := ⟨_, rfl⟩
  obtain ⟨m1, hm1⟩ : ∃ z, z = vs2.length := ⟨_, rfl⟩
  rw [← hn1] at HP1 hbd1
  rw [← hm1] at HS1
  rw [← hn1, ← hm1]
  have Hn1 := Lib.hid hn1.symm; have Hm1 := Lib.hid hm1.symm; have Hbd1 := Lib.hid hbd1
  clear p1 s1 hbd1 hn1 hm1
  by_cases h : nm = nm2
  · subst h
    by_cases h : li = li2
    · subst h
      by_cases h : co = co2
      · subst h
        by_cases h : n1 = m1
        · subst h
          go_enter Tryz.func46, Tryz.ntmps46
          go_upto_region 1 with (first
            | (refine wpList_box_first 106 _ rfl rfl [.string (toB nm), .slice a1 n1 c1, .int .i64 li, .int .i64 co] rfl ?_; (intro w1 g1 hg1 hB1 hb1))
            | (refine wpList_box_first 106 _ rfl rfl [.string (toB nm), .slice b1 n1 e1, .int .i64 li, .int .i64 co] rfl ?_; (intro w2 g2 hg2 hB2 hb2; have HB : Hid (Blk w2 g1 [.string (toB nm), .slice a1 n1 c1, .int .i64 li, .int .i64 co] ∧ Blk w2 g2 [.string (toB nm), .slice b1 n1 e1, .int .i64 li, .int .i64 co]) := Lib.hid ⟨hB1.below hb2 hB1.lt, hB2⟩; have HW : Hid (Below w.heap.size w w2) := Lib.hid (hb1.trans (hb2.mono hb1.size)); clear hB1 hb1 hB2 hb2 hg1 hg2; have x0 := HB.out.1.cell (o := 0) rfl; have y0 := HB.out.2.cell (o := 0) rfl; have x1 := HB.out.1.cell (o := 1) rfl; have y1 := HB.out.2.cell (o := 1) rfl; have x2 := HB.out.1.cell (o := 2) rfl; have y2 := HB.out.2.cell (o := 2) rfl; have x3 := HB.out.1.cell (o := 3) rfl; have y3 := HB.out.2.cell (o := 3) rfl)))
          go_upto_region 3 with fail
          clear x0 y0 x1 y1 x2 y2 x3 y3
          have xq := HB.out.1.cell (o := 1) (u := .slice a1 n1 c1) rfl
          have hns1 : n1 ≤ 9223372036854775807 := by have := Hbd1.out; omega
          go_wp2_with fail
          clear xq
          go_loopw [37] (fun iv wr => ∃ k : Nat, k ≤ n1 ∧ iv = .int .i64 k ∧ Hid (vs.take k = vs2.take k) ∧ Hid (Blk wr g1 [.string (toB nm), .slice a1 n1 c1, .int .i64 li, .int .i64 co] ∧ Blk wr g2 [.string (toB nm), .slice b1 n1 e1, .int .i64 li, .int .i64 co]) ∧ Hid (Below w.heap.size w wr)) (fun iv _ => n1 - (intOf iv).toNat)
          case atStart => exact ⟨0, Nat.zero_le _, rfl, Lib.hid rfl, HB, HW⟩
          case round =>
            obtain ⟨k, hkn, rfl, HT, HB, HW⟩ := hrel
            by_cases hlt : k < n1
            · have hk1 : k < vs.length := by rw [Hn1.out]; exact hlt
              have hk2 : k < vs2.length := by rw [Hm1.out]; exact hlt
              obtain ⟨d0, o0, hd0, hidx0, hcell0⟩ := FlatV.at (n := n1) (cap := c1) (a := a1) (HP1.out.mono (below_le HW.out)) vC_len (by decide) (i := k) hk1 Tryz.underlying104 sizeRV
              obtain ⟨d1, o1, hd1, hidx1, hcell1⟩ := FlatV.at (n := n1) (cap := e1) (a := b1) (HS1.out.mono (below_le HW.out)) vC_len (by decide) (i := k) hk2 Tryz.underlying104 sizeRV
              have hr0 : wr.rangeAt d0 o0 (vC vs[k]) := hcell0
              have hr1 : wr.rangeAt d1 o1 (vC vs2[k]) := hcell1
              have hT1 := List.take_succ_eq_append_getElem hk1
              have hT2 := List.take_succ_eq_append_getElem hk2
              have HNx : Hid (vs[k] = vs2[k] → vs.take (k + 1) = vs2.take (k + 1)) := Lib.hid (fun e => by rw [hT1, hT2, HT.out, e])
              have HNo : Hid (vs[k] ≠ vs2[k] → D = false) := Lib.hid (fun h => HDf.out (fun e => by injection e with j0 j1 j2 j3; exact take_ne hk1 hk2 h j1))
              clear hcell0 hcell1 hT1 hT2
              generalize vs[k] = x at *
              generalize vs2[k] = y at *
              have hP : (Blk wr.drew g1 [.string (toB nm), .slice a1 n1 c1, .int .i64 li, .int .i64 co] ∧ Blk wr.drew g2 [.string (toB nm), .slice b1 n1 e1, .int .i64 li, .int .i64 co]) ∧ (wr.drew.rangeAt d0 o0 (vC x) ∧ wr.drew.rangeAt d1 o1 (vC y)) := ⟨HB.out, hr0, hr1⟩
              clear hr0 hr1 hk1 hk2
              go_wp2_with fail
              refine wp_region_G 99 (fun w' => (Blk w' g1 [.string (toB nm), .slice a1 n1 c1, .int .i64 li, .int .i64 co] ∧ Blk w' g2 [.string (toB nm), .slice b1 n1 e1, .int .i64 li, .int .i64 co]) ∧ (w'.rangeAt d0 o0 (vC x) ∧ w'.rangeAt d1 o1 (vC y))) (fun _ => True) (by kernel_rfl) hP trivial (fun _ => ?_)
              refine wpAnyG_take0 (i := 0) (v := .pointer (some ⟨g1, 1, none⟩)) rfl (by kernel_rfl) (fun _ _ _ h => h) (.inl ⟨by rfl, fun w hw => by go_simp⟩) (InvG.mk hP trivial) ?_
              refine fSxSameRA11_52 ?_
              refine wpAnyG_take0 (i := 1) (v := .slice a1 n1 c1) rfl (by kernel_rfl) (fun _ _ _ h => h) (.inl ⟨by rfl, fun w hw => by have hc := hw.1.1.cell (o := 1) (u := .slice a1 n1 c1) rfl; clear hw; go_simp⟩) (InvG.mk hP trivial) ?_
              refine fSxSameRA11_52 ?_
              refine wpAnyG_take0 (i := 2) (v := .int .i64 k) rfl (by kernel_rfl) (fun _ _ _ h => h) (.inl ⟨by rfl, fun w hw => by go_simp⟩) (InvG.mk hP trivial) ?_
              refine fSxSameRA11_52 ?_
              refine wpAnyG_take0 (i := 3) (v := .pointer (some ⟨d0, o0, none⟩)) rfl (by kernel_rfl) (fun _ _ _ h => h) (.inl ⟨by rfl, fun w hw => by have hi := hidx0; clear hw; go_simp⟩) (InvG.mk hP trivial) ?_
              refine fSxSameRA11_52 ?_
              refine wpAnyG_take0 (i := 4) (v := .agg (vC x).toArray) rfl (by kernel_rfl) (fun _ _ _ h => h) (yieldsIf_load_mid (by rfl) 151 _ rfl d0 o0 (by go_simp) (vC x) _ (fun w h => h.2.1) Tryz.underlying151 rfl infoRV) (InvG.mk hP trivial) ?_
              refine fSxSameRA11_52 ?_
              refine wpAnyG_take0 (i := 5) (v := .pointer (some ⟨g2, 1, none⟩)) rfl (by kernel_rfl) (fun _ _ _ h => h) (.inl ⟨by rfl, fun w hw => by go_simp⟩) (InvG.mk hP trivial) ?_
              refine fSxSameRA11_52 ?_
              refine wpAnyG_take0 (i := 6) (v := .slice b1 n1 e1) rfl (by kernel_rfl) (fun _ _ _ h => h) (.inl ⟨by rfl, fun w hw => by have hc := hw.1.2.cell (o := 1) (u := .slice b1 n1 e1) rfl; clear hw; go_simp⟩) (InvG.mk hP trivial) ?_
              refine fSxSameRA11_52 ?_
              refine wpAnyG_take0 (i := 7) (v := .int .i64 k) rfl (by kernel_rfl) (fun _ _ _ h => h) (.inl ⟨by rfl, fun w hw => by go_simp⟩) (InvG.mk hP trivial) ?_
              refine fSxSameRA11_52 ?_
              refine wpAnyG_take0 (i := 8) (v := .pointer (some ⟨d1, o1, none⟩)) rfl (by kernel_rfl) (fun _ _ _ h => h) (.inl ⟨by rfl, fun w hw => by have hi := hidx1; clear hw; go_simp⟩) (InvG.mk hP trivial) ?_
              refine fSxSameRA11_52 ?_
              refine wpAnyG_take0 (i := 9) (v := .agg (vC y).toArray) rfl (by kernel_rfl) (fun _ _ _ h => h) (yieldsIf_load_mid (by rfl) 151 _ rfl d1 o1 (by go_simp) (vC y) _ (fun w h => h.2.2) Tryz.underlying151 rfl infoRV) (InvG.mk hP trivial) ?_
              refine fSxSameRA11_52 ?_
              refine wpAnyG_take0 (i := 10) (v := .bool (!decide (x = y))) rfl (by kernel_rfl) (fun _ _ _ h => h) (.inl ⟨by rfl, fun w hw => by have hq := neqRV x y; have hG : Tryz.prog.eqGuardType Tryz.prog.depth 151 = false := (by kernel_rfl); clear hw; go_simp⟩) (InvG.mk hP trivial) ?_
              refine fSxSameRA11_52 ?_
              refine wpAnyG_done (by kernel_rfl) ?_ _
              have HW2 : Hid (Below w.heap.size w wr.drew) := Lib.hid HW.out.drew
              have HB2 : Hid (Blk wr.drew g1 [.string (toB nm), .slice a1 n1 c1, .int .i64 li, .int .i64 co] ∧ Blk wr.drew g2 [.string (toB nm), .slice b1 n1 e1, .int .i64 li, .int .i64 co]) := Lib.hid HB.out
              clear hP hidx0 hidx1
              by_cases hxy : x = y
              · have HTn := Lib.hid (HNx.out hxy)
                rw [decide_eq_true hxy]
                clear hxy HNx HNo
                go_wp2_with fail
                go_roundw
                case rel => exact ⟨k + 1, by omega, by go_num, HTn, HB2, HW2⟩
                case measure => simp [intOf]; omega
              · have HDq := Lib.hid (HNo.out hxy)
                rw [decide_eq_false hxy]
                clear hxy HNx HNo
                go_wp2_with fail
                go_ret
                rw [HDq.out]
                exact ⟨rfl, HW2.out⟩
            · obtain rfl : n1 = k := by omega
              have He1 : Hid (vs = vs2) := Lib.hid (take_eq_all HT.out Hn1.out Hm1.out)
              clear HT hlt hkn
              have HDq := Lib.hid (HDt.out (by rw [He1.out]))
              go_wp2_with fail
              go_ret
              rw [HDq.out]
              exact ⟨rfl, HW.out⟩
        · have q1 : ¬ ((n1 : Nat) : Int) = ((m1 : Nat) : Int) := by omega
          have q2 : (((n1 : Nat) : Int) == ((m1 : Nat) : Int)) = false := beq_eq_false_iff_ne.2 q1
          have q3 : (((n1 : Nat) : Int) != ((m1 : Nat) : Int)) = true := by rw [bne, q2]; rfl
          have HDq := Lib.hid (HDf.out (fun e => by injection e with j0 j1 j2 j3; exact h (by rw [← Hn1.out, ← Hm1.out, j1])))
          go_enter Tryz.func46, Tryz.ntmps46
          go_upto_region 1 with (first
            | (refine wpList_box_first 106 _ rfl rfl [.string (toB nm), .slice a1 n1 c1, .int .i64 li, .int .i64 co] rfl ?_; (intro w1 g1 hg1 hB1 hb1))
            | (refine wpList_box_first 106 _ rfl rfl [.string (toB nm), .slice b1 m1 e1, .int .i64 li, .int .i64 co] rfl ?_; (intro w2 g2 hg2 hB2 hb2; have HB : Hid (Blk w2 g1 [.string (toB nm), .slice a1 n1 c1, .int .i64 li, .int .i64 co] ∧ Blk w2 g2 [.string (toB nm), .slice b1 m1 e1, .int .i64 li, .int .i64 co]) := Lib.hid ⟨hB1.below hb2 hB1.lt, hB2⟩; have HW : Hid (Below w.heap.size w w2) := Lib.hid (hb1.trans (hb2.mono hb1.size)); clear hB1 hb1 hB2 hb2 hg1 hg2; have x0 := HB.out.1.cell (o := 0) rfl; have y0 := HB.out.2.cell (o := 0) rfl; have x1 := HB.out.1.cell (o := 1) rfl; have y1 := HB.out.2.cell (o := 1) rfl; have x2 := HB.out.1.cell (o := 2) rfl; have y2 := HB.out.2.cell (o := 2) rfl; have x3 := HB.out.1.cell (o := 3) rfl; have y3 := HB.out.2.cell (o := 3) rfl)))
          go_wp2_with fail
          go_ret
          rw [HDq.out]
          exact ⟨rfl, HW.out⟩
      · have q1 : ¬ ((co : Nat) : Int) = ((co2 : Nat) : Int) := by omega
        have q2 : (((co : Nat) : Int) == ((co2 : Nat) : Int)) = false := beq_eq_false_iff_ne.2 q1
        have q3 : (((co : Nat) : Int) != ((co2 : Nat) : Int)) = true := by rw [bne, q2]; rfl
        have HDq := Lib.hid (HDf.out (fun e => by injection e with j0 j1 j2 j3; exact h j3))
        go_enter Tryz.func46, Tryz.ntmps46
        go_upto_region 1 with (first
          | (refine wpList_box_first 106 _ rfl rfl [.string (toB nm), .slice a1 n1 c1, .int .i64 li, .int .i64 co] rfl ?_; (intro w1 g1 hg1 hB1 hb1))
          | (refine wpList_box_first 106 _ rfl rfl [.string (toB nm), .slice b1 m1 e1, .int .i64 li, .int .i64 co2] rfl ?_; (intro w2 g2 hg2 hB2 hb2; have HB : Hid (Blk w2 g1 [.string (toB nm), .slice a1 n1 c1, .int .i64 li, .int .i64 co] ∧ Blk w2 g2 [.string (toB nm), .slice b1 m1 e1, .int .i64 li, .int .i64 co2]) := Lib.hid ⟨hB1.below hb2 hB1.lt, hB2⟩; have HW : Hid (Below w.heap.size w w2) := Lib.hid (hb1.trans (hb2.mono hb1.size)); clear hB1 hb1 hB2 hb2 hg1 hg2; have x0 := HB.out.1.cell (o := 0) rfl; have y0 := HB.out.2.cell (o := 0) rfl; have x1 := HB.out.1.cell (o := 1) rfl; have y1 := HB.out.2.cell (o := 1) rfl; have x2 := HB.out.1.cell (o := 2) rfl; have y2 := HB.out.2.cell (o := 2) rfl; have x3 := HB.out.1.cell (o := 3) rfl; have y3 := HB.out.2.cell (o := 3) rfl)))
        go_wp2_with fail
        go_ret
        rw [HDq.out]
        exact ⟨rfl, HW.out⟩
    · have q1 : ¬ ((li : Nat) : Int) = ((li2 : Nat) : Int) := by omega
      have q2 : (((li : Nat) : Int) == ((li2 : Nat) : Int)) = false := beq_eq_false_iff_ne.2 q1
      have q3 : (((li : Nat) : Int) != ((li2 : Nat) : Int)) = true := by rw [bne, q2]; rfl
      have HDq := Lib.hid (HDf.out (fun e => by injection e with j0 j1 j2 j3; exact h j2))
      go_enter Tryz.func46, Tryz.ntmps46
      go_upto_region 1 with (first
        | (refine wpList_box_first 106 _ rfl rfl [.string (toB nm), .slice a1 n1 c1, .int .i64 li, .int .i64 co] rfl ?_; (intro w1 g1 hg1 hB1 hb1))
        | (refine wpList_box_first 106 _ rfl rfl [.string (toB nm), .slice b1 m1 e1, .int .i64 li2, .int .i64 co2] rfl ?_; (intro w2 g2 hg2 hB2 hb2; have HB : Hid (Blk w2 g1 [.string (toB nm), .slice a1 n1 c1, .int .i64 li, .int .i64 co] ∧ Blk w2 g2 [.string (toB nm), .slice b1 m1 e1, .int .i64 li2, .int .i64 co2]) := Lib.hid ⟨hB1.below hb2 hB1.lt, hB2⟩; have HW : Hid (Below w.heap.size w w2) := Lib.hid (hb1.trans (hb2.mono hb1.size)); clear hB1 hb1 hB2 hb2 hg1 hg2; have x0 := HB.out.1.cell (o := 0) rfl; have y0 := HB.out.2.cell (o := 0) rfl; have x1 := HB.out.1.cell (o := 1) rfl; have y1 := HB.out.2.cell (o := 1) rfl; have x2 := HB.out.1.cell (o := 2) rfl; have y2 := HB.out.2.cell (o := 2) rfl; have x3 := HB.out.1.cell (o := 3) rfl; have y3 := HB.out.2.cell (o := 3) rfl)))
      go_wp2_with fail
      go_ret
      rw [HDq.out]
      exact ⟨rfl, HW.out⟩
  · have q1 := toB_beq nm nm2
    rw [decide_eq_false h] at q1
    have HDq := Lib.hid (HDf.out (fun e => by injection e with j0 j1 j2 j3; exact h j0))
    go_enter Tryz.func46, Tryz.ntmps46
    go_upto_region 1 with (first
      | (refine wpList_box_first 106 _ rfl rfl [.string (toB nm), .slice a1 n1 c1, .int .i64 li, .int .i64 co] rfl ?_; (intro w1 g1 hg1 hB1 hb1))
      | (refine wpList_box_first 106 _ rfl rfl [.string (toB nm2), .slice b1 m1 e1, .int .i64 li2, .int .i64 co2] rfl ?_; (intro w2 g2 hg2 hB2 hb2; have HB : Hid (Blk w2 g1 [.string (toB nm), .slice a1 n1 c1, .int .i64 li, .int .i64 co] ∧ Blk w2 g2 [.string (toB nm2), .slice b1 m1 e1, .int .i64 li2, .int .i64 co2]) := Lib.hid ⟨hB1.below hb2 hB1.lt, hB2⟩; have HW : Hid (Below w.heap.size w w2) := Lib.hid (hb1.trans (hb2.mono hb1.size)); clear hB1 hb1 hB2 hb2 hg1 hg2; have x0 := HB.out.1.cell (o := 0) rfl; have y0 := HB.out.2.cell (o := 0) rfl; have x1 := HB.out.1.cell (o := 1) rfl; have y1 := HB.out.2.cell (o := 1) rfl; have x2 := HB.out.1.cell (o := 2) rfl; have y2 := HB.out.2.cell (o := 2) rfl; have x3 := HB.out.1.cell (o := 3) rfl; have y3 := HB.out.2.cell (o := 3) rfl)))
    go_wp2_with fail
    go_ret
    rw [HDq.out]
    exact ⟨rfl, HW.out⟩

end Go.Proofs.YtiofhfcohhfihaaGreatDoor
