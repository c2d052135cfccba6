/- The law's files without places, walked. -/
import Derived.Test.YtiofhfcohhfihaaGreatDoorSxConv
import Derived.Test.YtiofhfcohhfihaaGreatDoorGroupB
namespace Go.Proofs.YtiofhfcohhfihaaGreatDoor
open Go.RowKit
set_option linter.unusedVariables false
set_option linter.unusedSimpArgs false

theorem fSxFlatA8_42 {P : Program} {md : Region.Mode} {ops : Array Oper} {Q : Exit → Act → World → Prop} {P0 P1 : World → Prop} {fin fuel : Nat} {b0 b1 b2 b3 b4 b5 b6 b7 : Bool} {x0 x1 x2 x3 x4 x5 x6 x7 x8 x9 x10 x11 x12 x13 x14 x15 x16 x17 x18 x19 x20 x21 x22 x23 x24 x25 x26 x27 x28 x29 x30 x31 x32 x33 x34 x35 x36 x37 x38 x39 x40 x41 : Value} {d} {w : World} (h : wpAnyG P md ops Q P0 P1 fin fuel #[b0, b1, b2, b3, b4, b5, b6, b7] ⟨#[x0, x1, x2, x3, x4, x5, x6, x7, x8, x9, x10, x11, x12, x13, x14, x15, x16, x17, x18, x19, x20, x21, x22, x23, x24, x25, x26, x27, x28, x29, x30, x31, x32, x33, x34, x35, x36, x37, x38, x39, x40, x41], d⟩ w) : wpAnyG P md ops Q P0 P1 fin fuel #[b0, b1, b2, b3, b4, b5, b6, b7] ⟨#[x0, x1, x2, x3, x4, x5, x6, x7, x8, x9, x10, x11, x12, x13, x14, x15, x16, x17, x18, x19, x20, x21, x22, x23, x24, x25, x26, x27, x28, x29, x30, x31, x32, x33, x34, x35, x36, x37, x38, x39, x40, x41], d⟩ w := h
theorem fSxFlatA8_66 {P : Program} {md : Region.Mode} {ops : Array Oper} {Q : Exit → Act → World → Prop} {P0 P1 : World → Prop} {fin fuel : Nat} {b0 b1 b2 b3 b4 b5 b6 b7 : Bool} {x0 x1 x2 x3 x4 x5 x6 x7 x8 x9 x10 x11 x12 x13 x14 x15 x16 x17 x18 x19 x20 x21 x22 x23 x24 x25 x26 x27 x28 x29 x30 x31 x32 x33 x34 x35 x36 x37 x38 x39 x40 x41 x42 x43 x44 x45 x46 x47 x48 x49 x50 x51 x52 x53 x54 x55 x56 x57 x58 x59 x60 x61 x62 x63 x64 x65 : Value} {d} {w : World} (h : wpAnyG P md ops Q P0 P1 fin fuel #[b0, b1, b2, b3, b4, b5, b6, b7] ⟨#[x0, x1, x2, x3, x4, x5, x6, x7, x8, x9, x10, x11, x12, x13, x14, x15, x16, x17, x18, x19, x20, x21, x22, x23, x24, x25, x26, x27, x28, x29, x30, x31, x32, x33, x34, x35, x36, x37, x38, x39, x40, x41, x42, x43, x44, x45, x46, x47, x48, x49, x50, x51, x52, x53, x54, x55, x56, x57, x58, x59, x60, x61, x62, x63, x64, x65], d⟩ w) : wpAnyG P md ops Q P0 P1 fin fuel #[b0, b1, b2, b3, b4, b5, b6, b7] ⟨#[x0, x1, x2, x3, x4, x5, x6, x7, x8, x9, x10, x11, x12, x13, x14, x15, x16, x17, x18, x19, x20, x21, x22, x23, x24, x25, x26, x27, x28, x29, x30, x31, x32, x33, x34, x35, x36, x37, x38, x39, x40, x41, x42, x43, x44, x45, x46, x47, x48, x49, x50, x51, x52, x53, x54, x55, x56, x57, x58, x59, x60, x61, x62, x63, x64, x65], d⟩ w := h


set_option maxHeartbeats 16000000 in
set_option maxRecDepth 100000 in
theorem flatEnum_any (h0 : Frag) (x : Sx.Enm) (cs : List Value) (w : World) (hle : FLe h0 (frag w)) (hx : EnmR h0 x cs) :
    Calls Tryz.prog 42 #[.agg cs.toArray] w (TreePost (fun h x cs => EnmR h (Sx.zE x) cs) h0 w x) := by
  obtain ⟨nm, vs, li, co⟩ := x
  obtain ⟨v1, hcs, q1⟩ := hx
  dsimp only at hcs q1
  obtain ⟨a1, c1, e1, _, _, _⟩ := q1.1.len
  subst e1 hcs
  have Hbd1 := Lib.hid q1.2
  have HF1 := Lib.hid q1.1
  obtain ⟨n1, hn1⟩ : ∃ z, z = vs.length := ⟨_, rfl⟩
  rw [← hn1] at Hbd1 HF1
  rw [← hn1]
  have Hn1 := Lib.hid hn1.symm
  have Hle := Lib.hid hle
  have hbd := rEnm_build1
  clear hle hn1 q1
  go_enter Tryz.func42, Tryz.ntmps42
  go_upto_region 1 with (first
    | (refine wpList_box_lay rfl 106 _ rfl [.string (toB nm), .slice a1 n1 c1, .int .i64 li, .int .i64 co] rfl ?_; (intro w1 g1 hg1 hB1 hb1))
    | (refine wpList_alloc_lay rfl 106 rfl zEn zeroRE ?_; (intro w2 gr hgr hBr hb2)))
  have HB12 := Lib.hid (hB1.below hb2 hB1.lt); have HBr2 := Lib.hid hBr
  have Hb2 : Hid (Below w.heap.size w w2) := Lib.hid (hb1.trans (hb2.mono hb1.size))
  have Hg12 : Hid (w.heap.size ≤ gr) := Lib.hid (Nat.le_trans hb1.size hgr)
  clear hB1 hb1 hb2 hBr hgr hg1
  have z0 : w2.cell? ⟨g1, 0, none⟩ = some (.string (toB nm)) := HB12.out.cell (o := 0) rfl
  go_upto_region 2 with (first
    | (refine wpList_alloc_lay rfl 106 rfl zEn zeroRE ?_; (intro w5 gm hgm hBv hb5))
    | (refine wpList_store_all rfl 106 _ _ rfl gm [.string (toB nm), (.slice none 0 0), .int .i64 0, .int .i64 0] rfl rfl zEn hBv infoRE rfl ?_ ?_; (· intro u hu; simp only [List.mem_cons, List.not_mem_nil, or_false] at hu; rcases hu with rfl | rfl | rfl | rfl <;> rfl); (intro w6 hB6 hgr6; have hb6 := Below.grown hb5 hgr6 hb5.size (fun _ e => by cases e; exact hgm); clear hb5 hgr6 hBv)))
  have HX : Hid (Blk w6 g1 [.string (toB nm), .slice a1 n1 c1, .int .i64 li, .int .i64 co] ∧ Blk w6 gr zEn) := Lib.hid ⟨HB12.out.below hb6 HB12.out.lt, HBr2.out.below hb6 HBr2.out.lt⟩
  have Hgs : Hid (g1 < w6.heap.size ∧ gr < w6.heap.size ∧ g1 ≠ gm ∧ gr ≠ gm ∧ w.heap.size ≤ gr) := Lib.hid ⟨HX.out.1.lt, HX.out.2.lt, fun e => by have := HB12.out.lt; omega, fun e => by have := HBr2.out.lt; omega, Hg12.out⟩
  have hdom := frag_dom Hle.out
  have HI : Hid (Built h0 w6.heap.size gm w [.string (toB nm), (.slice none 0 0), .int .i64 0, .int .i64 0] [rowOf 151 4 vC (.slice none 0 0) []] (fun _ => True) w6) := Lib.hid ⟨hB6, Rows.nil _ _ _ (fun r hr => by simp only [List.mem_cons, List.not_mem_nil, or_false] at hr; rcases hr with rfl <;> exact ⟨rfl, rfl, rfl⟩), trivial, Hle.out.trans ((below_le Hb2.out).trans (below_le hb6)), Hb2.out.trans (hb6.mono Hb2.out.size), ⟨Nat.le_trans Hb2.out.size hgm, hB6.lt, Nat.le_refl _⟩, hdom⟩
  clear hB6 hgm hb6 hdom z0
  have qs1 : w6.cell? ⟨g1, 1, none⟩ = some (.slice a1 n1 c1) := HX.out.1.cell (o := 1) rfl
  have hns1 : n1 ≤ 9223372036854775807 := by have := Hbd1.out; omega
  go_wp2_with fail
  clear qs1
  go_loopw [12] (fun iv wr => ∃ (k : Nat) (u1 : Value), k ≤ n1 ∧ iv = .int .i64 k ∧ Hid (Built h0 w6.heap.size gm w [.string (toB nm), u1, .int .i64 0, .int .i64 0] [rowOf 151 4 vC u1 ((vs.take k).map Sx.zV)] (fun _ => True) wr) ∧ Hid (Blk wr g1 [.string (toB nm), .slice a1 n1 c1, .int .i64 li, .int .i64 co] ∧ Blk wr gr zEn)) (fun iv _ => n1 - (intOf iv).toNat)
  case atStart => exact ⟨0, .slice none 0 0, Nat.zero_le _, rfl, HI, HX⟩
  case round =>
    obtain ⟨k, u1, hkn, rfl, HI, HX⟩ := hrel
    by_cases hlt : k < n1
    · have hks : k < vs.length := by rw [Hn1.out]; exact hlt
      obtain ⟨b0, o0, hb0, hidx, hcell⟩ := FlatV.at (n := n1) (cap := c1) (a := a1) (HF1.out.mono HI.out.le) vC_len (by decide) (i := k) hks Tryz.underlying104 sizeRV
      have HT : Hid (vs.take (k + 1) = vs.take k ++ [vs[k]]) := Lib.hid (List.take_succ_eq_append_getElem hks)
      have hr : wr.rangeAt b0 o0 (vC vs[k]) := hcell
      clear hcell
      generalize vs[k] = y at *
      go_upto_region 5 with (first
        | (refine wpList_load_seg rfl 151 _ rfl _ _ rfl _ _ hr Tryz.underlying151 rfl infoRV ?_)
        | (refine wpList_alloc_lay rfl 151 rfl zVl zeroRV ?_; (intro w7 g7 hg7 hB7 hb7; clear hr))
        | (refine wpList_store_all rfl 151 _ _ rfl g7 (vC y) rfl rfl zVl hB7 infoRV rfl (one_vC y) ?_; (intro w8 hB8 hgr8; have hb8 := Below.grown hb7 hgr8 hb7.size (fun _ e => by cases e; exact hg7); clear hb7 hgr8 hB7)))
      go_upto_region 6 with (first
        | (refine wpList_store_blk1 rfl 3 _ _ rfl g7 2 (.int .i64 0) rfl rfl _ hB8 info_int1 ?_ rfl ?_; (· show 2 + 1 ≤ 4; decide); (intro w8a hB8a hg8a hs8a; have hb8a := Below.grown hb8 hg8a hb8.size (fun _ e => by cases e; exact hg7); clear hb8 hg8a hB8 hs8a))
        | (refine wpList_store_blk1 rfl 3 _ _ rfl g7 3 (.int .i64 0) rfl rfl _ hB8a info_int1 ?_ rfl ?_; (· show 3 + 1 ≤ 4; decide); (intro w8b hB8b hg8b hs8b; have hb8b := Below.grown hb8a hg8b hb8a.size (fun _ e => by cases e; exact hg7); clear hb8a hg8b hB8a hs8b)))
      have hB8 : Blk w8b g7 (vC (Sx.zV y)) := hB8b
      have hb8 := hb8b
      clear hB8b hb8b
      have HI5 := Lib.hid (HI.out.next (fun _ _ _ h => h) hb8)
      have HX5 : Hid (Blk w8b g1 [.string (toB nm), .slice a1 n1 c1, .int .i64 li, .int .i64 co] ∧ Blk w8b gr zEn) := Lib.hid ⟨HX.out.1.below hb8 HX.out.1.lt, HX.out.2.below hb8 HX.out.2.lt⟩
      have cu : w8b.cell? ⟨gm, 1, none⟩ = some u1 := HI5.out.blk.cell (o := 1) rfl
      have hW8 := hB8.whole
      have hown5 : w8b.ownsRow w6.heap.size 151 4 u1 ((vs.take k).map Sx.zV).length (((vs.take k).map Sx.zV).flatMap vC) := HI5.out.rows.own (rowOf 151 4 vC u1 ((vs.take k).map Sx.zV)) (by simp)
      have hbn5 : (((vs.take k).map Sx.zV).length + 1) * 40 ≤ 140737488355328 := by
        have h1 := Hbd1.out
        have h2 : ((vs.take k).map Sx.zV).length ≤ k := by rw [List.length_map]; exact List.length_take_le k _
        omega
      clear hb8 hg7 hB8 hidx hb0
      go_wp2_with (first
        | (refine wpList_load_seg rfl 151 _ rfl _ _ rfl _ _ hW8 Tryz.underlying151 rfl infoRV ?_)
        | (refine wpList_buildSlice1 rfl 104 151 _ rfl (vC (Sx.zV y)) (.agg (vC (Sx.zV y)).toArray) rfl Tryz.underlying104 info2RV (show 0 < 4 by decide) (show 4 ≤ 1000 by decide) rfl ?_)
        | (at_builtin; refine wpList_append_own1 T_RV rfl _ _ rfl (vC (Sx.zV y)) rfl hown5 rfl rfl (one_vC _) hbn5 HI5.out.lts.2.2 ?_; (intro u9 w9 ho9 hg9 hat9 hone9; have HB9 := HI5.out.blk8 (r := rowOf 151 4 vC u1 ((vs.take k).map Sx.zV)) (by simp) hg9; clear cu))
        | (refine wpList_store_blk1 rfl 104 _ _ rfl gm 1 u9 rfl rfl _ HB9 info1RV ?_ hone9 ?_; (· show 1 + 1 ≤ 4; decide); (intro w10 hB10 hg10 hs10)))
      have H9 : Hid (Built h0 w6.heap.size gm w [.string (toB nm), u9, .int .i64 0, .int .i64 0] [rowOf 151 4 vC u9 ((vs.take (k + 1)).map Sx.zV)] (fun _ => True) w10) := Lib.hid (by
        rw [HT.out, List.map_append, List.map_cons, List.map_nil, rowOf_snoc]
        exact HI5.out.push (L := []) (M := []) (r := rowOf 151 4 vC u1 ((vs.take k).map Sx.zV)) ho9 hg9 hat9 hB10 hg10 (fun h' hle => (fun _ _ _ h => h) _ _ hle HI5.out.rd))
      have HX9 : Hid (Blk w10 g1 [.string (toB nm), .slice a1 n1 c1, .int .i64 li, .int .i64 co] ∧ Blk w10 gr zEn) := Lib.hid ⟨HI5.out.other (r := rowOf 151 4 vC u1 ((vs.take k).map Sx.zV)) (by simp) HX5.out.1 Hgs.out.1 Hgs.out.2.2.1 hg9 hg10, HI5.out.other (r := rowOf 151 4 vC u1 ((vs.take k).map Sx.zV)) (by simp) HX5.out.2 Hgs.out.2.1 Hgs.out.2.2.2.1 hg9 hg10⟩
      go_roundw
      case rel => exact ⟨k + 1, u9, by omega, by go_num, H9, HX9⟩
      case measure => simp [intOf]; omega
    · obtain rfl : n1 = k := by omega
      have HI2 : Hid (Built h0 w6.heap.size gm w [.string (toB nm), u1, .int .i64 0, .int .i64 0] [rowOf 151 4 vC u1 (vs.map Sx.zV)] (fun _ => True) wr) := Lib.hid (by
        have h1 := HI.out
        rw [List.take_of_length_le (by rw [Hn1.out]; exact Nat.le_refl _)] at h1
        exact h1)
      clear HI
      obtain ⟨w20, hwr⟩ : ∃ z, z = wr := ⟨_, rfl⟩
      subst hwr
      have HI := HI2
      clear HI2

      clear hlt hkn
      have hWm := HI.out.blk.whole
      have HBr := HX.out.2
      go_wp2_with (first
        | (refine wpList_load_seg rfl 106 _ rfl _ _ rfl _ _ hWm Tryz.underlying106 rfl infoRE ?_)
        | (refine wpList_store_all rfl 106 _ _ rfl gr [.string (toB nm), u1, .int .i64 0, .int .i64 0] rfl rfl zEn HBr infoRE rfl ?_ ?_; (· intro u hu; simp only [List.mem_cons, List.not_mem_nil, or_false] at hu; rcases hu with rfl | rfl | rfl | rfl <;> first | rfl | exact own_one (HI.out.rows.own _ (by simp only [List.mem_cons]; exact .inl rfl)) | exact own_one (HI.out.rows.own _ (by simp only [List.mem_cons]; exact .inr (.inl rfl))) | exact own_one (HI.out.rows.own _ (by simp only [List.mem_cons]; exact .inr (.inr (.inl rfl)))) | exact own_one (HI.out.rows.own _ (by simp only [List.mem_cons]; exact .inr (.inr (.inr (.inl rfl)))))); (intro w30 hB30 hgr30)))
      obtain ⟨hrd, hrows, hbel, _⟩ := HI.out.done (fun _ _ _ h => h) hgr30 Hgs.out.2.2.2.2 Hgs.out.2.1
      refine bodyPost_ret (v := .agg [.string (toB nm), u1, .int .i64 0, .int .i64 0].toArray) ?_ rfl ⟨_, rfl, ?_, hbel⟩
      · exact results_blk (p := 2) (ty := 106) rfl _ _ gr [.string (toB nm), u1, .int .i64 0, .int .i64 0] rfl hB30 _ Tryz.underlying106 rfl infoRE
      · exact ⟨_, rfl, ⟨FlatV.of_ownsJ (hrows.own (rowOf 151 4 vC u1 (vs.map Sx.zV)) (by simp)) (by have := HI.out.lts; omega), by show ((vs.map Sx.zV)).length ≤ 10000; rw [List.length_map]; rw [Hn1.out]; exact Hbd1.out⟩⟩

def flatMessageAt (N : Nat) : Prop := ∀ (h0 : Frag) (x : Sx.Msg) (cs : List Value) (w : World), SizeOf.sizeOf x < N → FLe h0 (frag w) → MsgR h0 x cs →
  Calls Tryz.prog 41 #[.agg cs.toArray] w (TreePost (fun h x cs => MsgR h (Sx.zM x) cs) h0 w x)
set_option maxHeartbeats 16000000 in
set_option maxRecDepth 100000 in
theorem flatMessage_succ (N : Nat) (ih : flatMessageAt N) : flatMessageAt (N + 1) := by
  intro h0 x cs w hsz hle hx
  obtain ⟨nm, fs, os, ms, es, rs, ns, li, co⟩ := x
  have Hsize : Hid (∀ k ∈ ms, SizeOf.sizeOf k < N) := Lib.hid (fun k hk => by
    have h1 := List.sizeOf_lt_of_mem hk
    rw [Sx.Msg.mk.sizeOf_spec] at hsz
    omega)
  rw [MsgR] at hx
  obtain ⟨v1, v2, v3, v4, v5, v6, cs3, cs4, hcs, ⟨q1, q2, q3, q4, q5, q6⟩, hr3, hr4⟩ := hx
  obtain ⟨a1, c1, e1, _, _, _⟩ := q1.1.len
  obtain ⟨a2, c2, e2, _, _, _⟩ := q2.1.len
  obtain ⟨a3, c3, e3, _, _, _⟩ := q3.1.len
  obtain ⟨a4, c4, e4, _, _, _⟩ := q4.1.len
  obtain ⟨a5, c5, e5, _, _, _⟩ := q5.1.len
  obtain ⟨a6, c6, e6, _, _, _⟩ := q6.1.len
  subst e1 e2 e3 e4 e5 e6 hcs
  have Hbd1 := Lib.hid q1.2
  have Hbd2 := Lib.hid q2.2
  have Hbd3 := Lib.hid q3.2
  have Hbd4 := Lib.hid q4.2
  have Hbd5 := Lib.hid q5.2
  have Hbd6 := Lib.hid q6.2
  have HF1 := Lib.hid q1.1
  have HF2 := Lib.hid q2.1
  have HF3 := Lib.hid q3.1
  have HF4 := Lib.hid q4.1
  have HF5 := Lib.hid q5.1
  have HF6 := Lib.hid q6.1
  have HR3 := Lib.hid hr3; have HR4 := Lib.hid hr4
  have Hq2 := Lib.hid q2; have Hq6 := Lib.hid q6; have Hq5 := Lib.hid q5
  obtain ⟨n1, hn1⟩ : ∃ z, z = fs.length := ⟨_, rfl⟩
  obtain ⟨n2, hn2⟩ : ∃ z, z = os.length := ⟨_, rfl⟩
  obtain ⟨n3, hn3⟩ : ∃ z, z = cs3.length := ⟨_, rfl⟩
  obtain ⟨n4, hn4⟩ : ∃ z, z = cs4.length := ⟨_, rfl⟩
  obtain ⟨n5, hn5⟩ : ∃ z, z = rs.length := ⟨_, rfl⟩
  obtain ⟨n6, hn6⟩ : ∃ z, z = ns.length := ⟨_, rfl⟩
  rw [← hn1] at Hbd1 HF1
  rw [← hn2] at Hbd2 HF2 Hq2
  rw [← hn3] at Hbd3 HF3
  rw [← hn4] at Hbd4 HF4
  rw [← hn5] at Hbd5 HF5 Hq5
  rw [← hn6] at Hbd6 HF6 Hq6
  rw [← hn1, ← hn2, ← hn3, ← hn4, ← hn5, ← hn6]
  have Hn1 := Lib.hid hn1.symm
  have Hn2 := Lib.hid hn2.symm
  have Hn3 := Lib.hid hn3.symm
  have Hn4 := Lib.hid hn4.symm
  have Hn5 := Lib.hid hn5.symm
  have Hn6 := Lib.hid hn6.symm
  have Hle := Lib.hid hle
  have hbd := rMsg_build1
  clear hle hn1 hn2 hn3 hn4 hn5 hn6 q1 q2 q3 q4 q5 q6 hr3 hr4 hsz
  go_enter Tryz.func41, Tryz.ntmps41
  go_upto_region 1 with (first
    | (refine wpList_box_lay rfl 102 _ rfl [.string (toB nm), .slice a1 n1 c1, .slice a2 n2 c2, .slice a3 n3 c3, .slice a4 n4 c4, .slice a5 n5 c5, .slice a6 n6 c6, .int .i64 li, .int .i64 co] rfl ?_; (intro w1 g1 hg1 hB1 hb1))
    | (refine wpList_alloc_lay rfl 102 rfl zMs zeroRM ?_; (intro w2 gr hgr hBr hb2)))
  have HB12 := Lib.hid (hB1.below hb2 hB1.lt); have HBr2 := Lib.hid hBr
  have Hb2 : Hid (Below w.heap.size w w2) := Lib.hid (hb1.trans (hb2.mono hb1.size))
  have Hg12 : Hid (w.heap.size ≤ gr) := Lib.hid (Nat.le_trans hb1.size hgr)
  clear hB1 hb1 hb2 hBr hgr hg1
  have z0 : w2.cell? ⟨g1, 0, none⟩ = some (.string (toB nm)) := HB12.out.cell (o := 0) rfl
  have z2 : w2.cell? ⟨g1, 2, none⟩ = some (.slice a2 n2 c2) := HB12.out.cell (o := 2) rfl
  have z5 : w2.cell? ⟨g1, 5, none⟩ = some (.slice a5 n5 c5) := HB12.out.cell (o := 5) rfl
  have z6 : w2.cell? ⟨g1, 6, none⟩ = some (.slice a6 n6 c6) := HB12.out.cell (o := 6) rfl
  go_upto_region 2 with (first
    | (refine wpList_alloc_lay rfl 102 rfl zMs zeroRM ?_; (intro w5 gm hgm hBv hb5))
    | (refine wpList_store_all rfl 102 _ _ rfl gm [.string (toB nm), (.slice none 0 0), .slice a2 n2 c2, (.slice none 0 0), (.slice none 0 0), .slice a5 n5 c5, .slice a6 n6 c6, .int .i64 0, .int .i64 0] rfl rfl zMs hBv infoRM rfl ?_ ?_; (· intro u hu; simp only [List.mem_cons, List.not_mem_nil, or_false] at hu; rcases hu with rfl | rfl | rfl | rfl | rfl | rfl | rfl | rfl | rfl <;> rfl); (intro w6 hB6 hgr6; have hb6 := Below.grown hb5 hgr6 hb5.size (fun _ e => by cases e; exact hgm); clear hb5 hgr6 hBv)))
  have HX : Hid (Blk w6 g1 [.string (toB nm), .slice a1 n1 c1, .slice a2 n2 c2, .slice a3 n3 c3, .slice a4 n4 c4, .slice a5 n5 c5, .slice a6 n6 c6, .int .i64 li, .int .i64 co] ∧ Blk w6 gr zMs) := Lib.hid ⟨HB12.out.below hb6 HB12.out.lt, HBr2.out.below hb6 HBr2.out.lt⟩
  have Hgs : Hid (g1 < w6.heap.size ∧ gr < w6.heap.size ∧ g1 ≠ gm ∧ gr ≠ gm ∧ w.heap.size ≤ gr) := Lib.hid ⟨HX.out.1.lt, HX.out.2.lt, fun e => by have := HB12.out.lt; omega, fun e => by have := HBr2.out.lt; omega, Hg12.out⟩
  have hdom := frag_dom Hle.out
  have HI : Hid (Built h0 w6.heap.size gm w [.string (toB nm), (.slice none 0 0), .slice a2 n2 c2, (.slice none 0 0), (.slice none 0 0), .slice a5 n5 c5, .slice a6 n6 c6, .int .i64 0, .int .i64 0] [rowOf 150 10 fC (.slice none 0 0) [], rowCs 102 9 (.slice none 0 0) [], rowCs 106 4 (.slice none 0 0) []] (flRD (.slice a2 n2 c2) os (.slice a6 n6 c6) ns (.slice a5 n5 c5) rs [] [] [] []) w6) := Lib.hid ⟨hB6, Rows.nil _ _ _ (fun r hr => by simp only [List.mem_cons, List.not_mem_nil, or_false] at hr; rcases hr with rfl | rfl | rfl <;> exact ⟨rfl, rfl, rfl⟩), ⟨⟨⟨Hq2.out.1.mono (fragJ_of (fun k o e => Nat.lt_of_lt_of_le (hdom k o e) (Nat.le_trans Hb2.out.size hb6.size))), Hq2.out.2⟩, ⟨Hq6.out.1.mono (fragJ_of (fun k o e => Nat.lt_of_lt_of_le (hdom k o e) (Nat.le_trans Hb2.out.size hb6.size))), Hq6.out.2⟩, ⟨Hq5.out.1.mono (fragJ_of (fun k o e => Nat.lt_of_lt_of_le (hdom k o e) (Nat.le_trans Hb2.out.size hb6.size))), Hq5.out.2⟩⟩, by rw [MsgsR], by rw [EnsR]⟩, Hle.out.trans ((below_le Hb2.out).trans (below_le hb6)), Hb2.out.trans (hb6.mono Hb2.out.size), ⟨Nat.le_trans Hb2.out.size hgm, hB6.lt, Nat.le_refl _⟩, hdom⟩
  clear hB6 hgm hb6 hdom z0 z2 z5 z6
  have qs1 : w6.cell? ⟨g1, 1, none⟩ = some (.slice a1 n1 c1) := HX.out.1.cell (o := 1) rfl
  have hns1 : n1 ≤ 9223372036854775807 := by have := Hbd1.out; omega
  go_wp2_with fail
  clear qs1
  go_loopw [22] (fun iv wr => ∃ (k : Nat) (u1 : Value), k ≤ n1 ∧ iv = .int .i64 k ∧ Hid (Built h0 w6.heap.size gm w [.string (toB nm), u1, .slice a2 n2 c2, (.slice none 0 0), (.slice none 0 0), .slice a5 n5 c5, .slice a6 n6 c6, .int .i64 0, .int .i64 0] [rowOf 150 10 fC u1 ((fs.take k).map Sx.zF), rowCs 102 9 (.slice none 0 0) [], rowCs 106 4 (.slice none 0 0) []] (flRD (.slice a2 n2 c2) os (.slice a6 n6 c6) ns (.slice a5 n5 c5) rs [] [] [] []) wr) ∧ Hid (Blk wr g1 [.string (toB nm), .slice a1 n1 c1, .slice a2 n2 c2, .slice a3 n3 c3, .slice a4 n4 c4, .slice a5 n5 c5, .slice a6 n6 c6, .int .i64 li, .int .i64 co] ∧ Blk wr gr zMs)) (fun iv _ => n1 - (intOf iv).toNat)
  case atStart => exact ⟨0, .slice none 0 0, Nat.zero_le _, rfl, HI, HX⟩
  case round =>
    obtain ⟨k, u1, hkn, rfl, HI, HX⟩ := hrel
    by_cases hlt : k < n1
    · have hks : k < fs.length := by rw [Hn1.out]; exact hlt
      obtain ⟨b0, o0, hb0, hidx, hcell⟩ := FlatV.at (n := n1) (cap := c1) (a := a1) (HF1.out.mono HI.out.le) fC_len (by decide) (i := k) hks Tryz.underlying99 sizeRF
      have HT : Hid (fs.take (k + 1) = fs.take k ++ [fs[k]]) := Lib.hid (List.take_succ_eq_append_getElem hks)
      have hr : wr.rangeAt b0 o0 (fC fs[k]) := hcell
      clear hcell
      generalize fs[k] = y at *
      go_upto_region 5 with (first
        | (refine wpList_load_seg rfl 150 _ rfl _ _ rfl _ _ hr Tryz.underlying150 rfl infoRF ?_)
        | (refine wpList_alloc_lay rfl 150 rfl zF zeroRF ?_; (intro w7 g7 hg7 hB7 hb7; clear hr))
        | (refine wpList_store_all rfl 150 _ _ rfl g7 (fC y) rfl rfl zF hB7 infoRF rfl (one_fC y) ?_; (intro w8 hB8 hgr8; have hb8 := Below.grown hb7 hgr8 hb7.size (fun _ e => by cases e; exact hg7); clear hb7 hgr8 hB7)))
      go_upto_region 6 with (first
        | (refine wpList_store_blk1 rfl 3 _ _ rfl g7 8 (.int .i64 0) rfl rfl _ hB8 info_int1 ?_ rfl ?_; (· show 8 + 1 ≤ 10; decide); (intro w8a hB8a hg8a hs8a; have hb8a := Below.grown hb8 hg8a hb8.size (fun _ e => by cases e; exact hg7); clear hb8 hg8a hB8 hs8a))
        | (refine wpList_store_blk1 rfl 3 _ _ rfl g7 9 (.int .i64 0) rfl rfl _ hB8a info_int1 ?_ rfl ?_; (· show 9 + 1 ≤ 10; decide); (intro w8b hB8b hg8b hs8b; have hb8b := Below.grown hb8a hg8b hb8a.size (fun _ e => by cases e; exact hg7); clear hb8a hg8b hB8a hs8b)))
      have hB8 : Blk w8b g7 (fC (Sx.zF y)) := hB8b
      have hb8 := hb8b
      clear hB8b hb8b
      have HI5 := Lib.hid (HI.out.next (flRD_mono _ _ _ _ _ _ _ _ _ _) hb8)
      have HX5 : Hid (Blk w8b g1 [.string (toB nm), .slice a1 n1 c1, .slice a2 n2 c2, .slice a3 n3 c3, .slice a4 n4 c4, .slice a5 n5 c5, .slice a6 n6 c6, .int .i64 li, .int .i64 co] ∧ Blk w8b gr zMs) := Lib.hid ⟨HX.out.1.below hb8 HX.out.1.lt, HX.out.2.below hb8 HX.out.2.lt⟩
      have cu : w8b.cell? ⟨gm, 1, none⟩ = some u1 := HI5.out.blk.cell (o := 1) rfl
      have hW8 := hB8.whole
      have hown5 : w8b.ownsRow w6.heap.size 150 10 u1 ((fs.take k).map Sx.zF).length (((fs.take k).map Sx.zF).flatMap fC) := HI5.out.rows.own (rowOf 150 10 fC u1 ((fs.take k).map Sx.zF)) (by simp)
      have hbn5 : (((fs.take k).map Sx.zF).length + 1) * 112 ≤ 140737488355328 := by
        have h1 := Hbd1.out
        have h2 : ((fs.take k).map Sx.zF).length ≤ k := by rw [List.length_map]; exact List.length_take_le k _
        omega
      clear hb8 hg7 hB8 hidx hb0
      go_wp2_with (first
        | (refine wpList_load_seg rfl 150 _ rfl _ _ rfl _ _ hW8 Tryz.underlying150 rfl infoRF ?_)
        | (refine wpList_buildSlice1 rfl 99 150 _ rfl (fC (Sx.zF y)) (.agg (fC (Sx.zF y)).toArray) rfl Tryz.underlying99 info2RF (show 0 < 10 by decide) (show 10 ≤ 1000 by decide) rfl ?_)
        | (at_builtin; refine wpList_append_own1 T_RF rfl _ _ rfl (fC (Sx.zF y)) rfl hown5 rfl rfl (one_fC _) hbn5 HI5.out.lts.2.2 ?_; (intro u9 w9 ho9 hg9 hat9 hone9; have HB9 := HI5.out.blk8 (r := rowOf 150 10 fC u1 ((fs.take k).map Sx.zF)) (by simp) hg9; clear cu))
        | (refine wpList_store_blk1 rfl 99 _ _ rfl gm 1 u9 rfl rfl _ HB9 info1RF ?_ hone9 ?_; (· show 1 + 1 ≤ 9; decide); (intro w10 hB10 hg10 hs10)))
      have H9 : Hid (Built h0 w6.heap.size gm w [.string (toB nm), u9, .slice a2 n2 c2, (.slice none 0 0), (.slice none 0 0), .slice a5 n5 c5, .slice a6 n6 c6, .int .i64 0, .int .i64 0] [rowOf 150 10 fC u9 ((fs.take (k + 1)).map Sx.zF), rowCs 102 9 (.slice none 0 0) [], rowCs 106 4 (.slice none 0 0) []] (flRD (.slice a2 n2 c2) os (.slice a6 n6 c6) ns (.slice a5 n5 c5) rs [] [] [] []) w10) := Lib.hid (by
        rw [HT.out, List.map_append, List.map_cons, List.map_nil, rowOf_snoc]
        exact HI5.out.push (L := []) (M := [rowCs 102 9 (.slice none 0 0) [], rowCs 106 4 (.slice none 0 0) []]) (r := rowOf 150 10 fC u1 ((fs.take k).map Sx.zF)) ho9 hg9 hat9 hB10 hg10 (fun h' hle => (flRD_mono _ _ _ _ _ _ _ _ _ _) _ _ hle HI5.out.rd))
      have HX9 : Hid (Blk w10 g1 [.string (toB nm), .slice a1 n1 c1, .slice a2 n2 c2, .slice a3 n3 c3, .slice a4 n4 c4, .slice a5 n5 c5, .slice a6 n6 c6, .int .i64 li, .int .i64 co] ∧ Blk w10 gr zMs) := Lib.hid ⟨HI5.out.other (r := rowOf 150 10 fC u1 ((fs.take k).map Sx.zF)) (by simp) HX5.out.1 Hgs.out.1 Hgs.out.2.2.1 hg9 hg10, HI5.out.other (r := rowOf 150 10 fC u1 ((fs.take k).map Sx.zF)) (by simp) HX5.out.2 Hgs.out.2.1 Hgs.out.2.2.2.1 hg9 hg10⟩
      go_roundw
      case rel => exact ⟨k + 1, u9, by omega, by go_num, H9, HX9⟩
      case measure => simp [intOf]; omega
    · obtain rfl : n1 = k := by omega
      have HI2 : Hid (Built h0 w6.heap.size gm w [.string (toB nm), u1, .slice a2 n2 c2, (.slice none 0 0), (.slice none 0 0), .slice a5 n5 c5, .slice a6 n6 c6, .int .i64 0, .int .i64 0] [rowOf 150 10 fC u1 (fs.map Sx.zF), rowCs 102 9 (.slice none 0 0) [], rowCs 106 4 (.slice none 0 0) []] (flRD (.slice a2 n2 c2) os (.slice a6 n6 c6) ns (.slice a5 n5 c5) rs [] [] [] []) wr) := Lib.hid (by
        have h1 := HI.out
        rw [List.take_of_length_le (by rw [Hn1.out]; exact Nat.le_refl _)] at h1
        exact h1)
      clear HI
      obtain ⟨w20, hwr⟩ : ∃ z, z = wr := ⟨_, rfl⟩
      subst hwr
      have HI := HI2
      clear HI2

      clear hlt hkn
      have qs3 : w20.cell? ⟨g1, 3, none⟩ = some (.slice a3 n3 c3) := HX.out.1.cell (o := 3) rfl
      have hns3 : n3 ≤ 9223372036854775807 := by have := Hbd3.out; omega
      go_wp2_with fail
      clear qs3
      go_loopw [38] (fun iv wr => ∃ (k : Nat) (u3 : Value) (es3 : List (List Value)), k ≤ n3 ∧ iv = .int .i64 k ∧ Hid (Built h0 w6.heap.size gm w [.string (toB nm), u1, .slice a2 n2 c2, u3, (.slice none 0 0), .slice a5 n5 c5, .slice a6 n6 c6, .int .i64 0, .int .i64 0] [rowOf 150 10 fC u1 (fs.map Sx.zF), rowCs 102 9 u3 es3, rowCs 106 4 (.slice none 0 0) []] (flRD (.slice a2 n2 c2) os (.slice a6 n6 c6) ns (.slice a5 n5 c5) rs ((ms.take k).map Sx.zM) es3 [] []) wr) ∧ Hid (Blk wr g1 [.string (toB nm), .slice a1 n1 c1, .slice a2 n2 c2, .slice a3 n3 c3, .slice a4 n4 c4, .slice a5 n5 c5, .slice a6 n6 c6, .int .i64 li, .int .i64 co] ∧ Blk wr gr zMs) ∧ Hid (es3.length = k)) (fun iv _ => n3 - (intOf iv).toNat)
      case atStart => exact ⟨0, .slice none 0 0, [], Nat.zero_le _, rfl, HI, HX, Lib.hid rfl⟩
      case round =>
        obtain ⟨k, u3, es3, hkn, rfl, HI, HX, HL⟩ := hrel
        by_cases hlt : k < n3
        · have hks : k < cs3.length := by rw [Hn3.out]; exact hlt
          have hkf : k < ms.length := by rw [← HR3.out.len]; exact hks
          obtain ⟨b0, o0, hb0, hidx, hcell⟩ := FlatC.at (n := n3) (cap := c3) (a := a3) (HF3.out.mono HI.out.le) (by decide) (i := k) hks Tryz.underlying37 sizeRM
          have hrd := HR3.out.at hkf hks
          have HT : Hid (ms.take (k + 1) = ms.take k ++ [ms[k]]) := Lib.hid (List.take_succ_eq_append_getElem hkf)
          have hr : wr.rangeAt b0 o0 cs3[k] := hcell
          have Hsz := Lib.hid (Hsize.out _ (List.getElem_mem hkf))
          clear hcell
          generalize ms[k] = y at *
          generalize cs3[k] = yc at *
          have HRd := Lib.hid hrd; have HYl := Lib.hid hrd.size; have HY1 := Lib.hid hrd.one
          clear hrd
          go_upto_region 11 with (first
            | (refine wpList_load_seg rfl 102 _ rfl _ _ rfl _ _ hr Tryz.underlying102 rfl ?_ ?_; (· rw [HYl.out]; exact infoRM))
            | (refine wpList_alloc_lay rfl 102 rfl zMs zeroRM ?_; (intro w7 g7 hg7 hB7 hb7; clear hr))
            | (refine wpList_store_all rfl 102 _ _ rfl g7 yc rfl rfl zMs hB7 ?_ ?_ ?_ ?_; (· rw [HYl.out]; exact infoRM); (· exact HYl.out); (· exact HY1.out); (intro w8 hB8 hgr8; have hb8 := Below.grown hb7 hgr8 hb7.size (fun _ e => by cases e; exact hg7); clear hb7 hgr8 hB7)))
          have HI5 := Lib.hid ((HI.out.next (flRD_mono _ _ _ _ _ _ _ _ _ _) hb8).next (flRD_mono _ _ _ _ _ _ _ _ _ _) (Below.refl _ _).drew)
          have HX5 : Hid (Blk w8.drew g1 [.string (toB nm), .slice a1 n1 c1, .slice a2 n2 c2, .slice a3 n3 c3, .slice a4 n4 c4, .slice a5 n5 c5, .slice a6 n6 c6, .int .i64 li, .int .i64 co] ∧ Blk w8.drew gr zMs) := Lib.hid ⟨HX.out.1.below hb8.drew HX.out.1.lt, HX.out.2.below hb8.drew HX.out.2.lt⟩
          have HB7 : Hid (Blk w8.drew g7 yc) := Lib.hid hB8
          have Hn7 : Hid (∀ j, u3.ownBlock = some j → j = g7 → False) := Lib.hid (fun j hj e => by have h1 := ((HI.out.rows.own (rowCs 102 9 u3 es3) (by simp)).lt j hj).2; omega)
          clear hb8 hg7 hB8 hidx hb0
          go_wp2_with fail
          refine wp_region_G 7 (fun _ => True) (fun w' => Blk w' gm [.string (toB nm), u1, .slice a2 n2 c2, u3, (.slice none 0 0), .slice a5 n5 c5, .slice a6 n6 c6, .int .i64 0, .int .i64 0] ∧ Blk w' g7 yc) (by kernel_rfl) trivial ⟨HI5.out.blk, HB7.out⟩ (fun _ => ?_)
          refine wpAnyG_take0 (i := 0) (v := .pointer (some ⟨gm, 3, none⟩)) rfl (by kernel_rfl) (fun _ _ _ h => h) (.inl ⟨by rfl, fun w hw => by go_simp⟩) (InvG.mk trivial ⟨HI5.out.blk, HB7.out⟩) ?_
          refine fSxFlatA8_66 ?_
          refine wpAnyG_take (i := 1) (v := u3) rfl (by kernel_rfl) (fun _ _ _ h => h) (.inl ⟨by rfl, fun w hw => by have hc := hw.2.1.cell (o := 3) (u := u3) rfl; clear hw; go_simp⟩) (InvG.mk trivial ⟨HI5.out.blk, HB7.out⟩) ?_
          refine fSxFlatA8_66 ?_
          refine wpAnyG_take (i := 2) (v := .agg yc.toArray) rfl (by kernel_rfl) (fun _ _ _ h => h) (yieldsIf_load_mid (by rfl) 102 _ rfl g7 0 (by go_simp) yc _ (fun w h => h.2.2.whole) Tryz.underlying102 rfl (by rw [HYl.out]; exact infoRM)) (InvG.mk trivial ⟨HI5.out.blk, HB7.out⟩) ?_
          refine fSxFlatA8_66 ?_
          refine wpAnyG_ready (rs := [3]) (by kernel_rfl) (by simp) ?_
          refine AllReadyG.plain rfl rfl (fun K hK => ?_) AllReadyG.nil
          go_simp
          refine (ih h0 y yc w8.drew Hsz.out HI5.out.le HRd.out).mono ?_
          rintro e w11 ⟨xc, rfl, hx11, hb11⟩
          have HI6 := Lib.hid (HI5.out.next (flRD_mono _ _ _ _ _ _ _ _ _ _) hb11)
          have HX6 : Hid (Blk w11 g1 [.string (toB nm), .slice a1 n1 c1, .slice a2 n2 c2, .slice a3 n3 c3, .slice a4 n4 c4, .slice a5 n5 c5, .slice a6 n6 c6, .int .i64 li, .int .i64 co] ∧ Blk w11 gr zMs) := Lib.hid ⟨HX5.out.1.below hb11 HX5.out.1.lt, HX5.out.2.below hb11 HX5.out.2.lt⟩
          have HB7b := Lib.hid (HB7.out.below hb11 HB7.out.lt)
          have HXr := Lib.hid (hx11.mono HI5.out.fresh); have HXl := Lib.hid hx11.size; have HX1 := Lib.hid hx11.one
          clear hx11 hb11
          refine hK.out _ _ (InvG.mk trivial ⟨HI6.out.blk, HB7b.out⟩) (fun _ => ?_)
          clear hK
          refine fSxFlatA8_66 ?_
          refine wpAnyG_ready (rs := [4]) (by kernel_rfl) (by simp) ?_
          refine AllReadyG.plain rfl rfl (fun K hK => ?_) AllReadyG.nil
          refine wp_buildSlice1 37 102 _ rfl xc (.agg xc.toArray) (by go_simp) Tryz.underlying37 (by rw [HXl.out]; exact info2RM) (by rw [HXl.out]; decide) (by rw [HXl.out]; decide) rfl ?_
          refine hK.out _ _ (InvG.mk trivial ⟨(HI6.out.next (flRD_mono _ _ _ _ _ _ _ _ _ _) ((Below.refl _ _).alloc (Nat.le_refl _) _)).blk, HB7b.out.alloc _⟩) (fun _ => ?_)
          clear hK
          refine fSxFlatA8_66 ?_
          refine wpAnyG_ready (rs := [5]) (by kernel_rfl) (by simp) ?_
          refine AllReadyG.plain rfl rfl (fun K hK => ?_) AllReadyG.nil
          refine wp_append_own1 T_RM _ _ rfl xc (by go_simp) (show w11.ownsRow w6.heap.size 102 9 u3 es3.length es3.flatten from HI6.out.rows.own (rowCs 102 9 u3 es3) (by simp)) (by go_simp) HXl.out HX1.out (by have h1 := Hbd3.out; have h2 := HL.out; omega) HI6.out.lts.2.2 ?_
          intro u9 w9 ho9 hg9 hat9 hone9
          have HB9 := HI6.out.blk8 (r := rowCs 102 9 u3 es3) (by simp) hg9
          have HB79 : Blk w9 g7 yc := HB7b.out.grown hg9 (fun e => Hn7.out g7 e.symm rfl)
          refine hK.out _ _ (InvG.mk trivial ⟨HB9, HB79⟩) (fun _ => ?_)
          clear hK
          refine fSxFlatA8_66 ?_
          refine wpAnyG_take0 (i := 6) (v := .pointer (some ⟨gm, 3, none⟩)) rfl (by kernel_rfl) (fun _ _ _ h => h) (.inl ⟨by rfl, fun w hw => by go_simp⟩) (InvG.mk trivial ⟨HB9, HB79⟩) ?_
          refine fSxFlatA8_66 ?_
          refine wpAnyG_ready (rs := [7]) (by kernel_rfl) (by simp) ?_
          refine AllReadyG.plain rfl rfl (fun K hK => ?_) AllReadyG.nil
          refine wp_store_lay 37 _ _ rfl gm 3 u9 [u9] [.string (toB nm), u1, .slice a2 n2 c2, u3, (.slice none 0 0), .slice a5 n5 c5, .slice a6 n6 c6, .int .i64 0, .int .i64 0] (by go_simp) (by go_simp) (one_cells hone9) HB9 info1RM (show 3 + 1 ≤ 9 by decide) (one1 hone9) ?_
          intro w10 hB10 hg10 hs10
          have H9 : Hid (Built h0 w6.heap.size gm w [.string (toB nm), u1, .slice a2 n2 c2, u9, (.slice none 0 0), .slice a5 n5 c5, .slice a6 n6 c6, .int .i64 0, .int .i64 0] [rowOf 150 10 fC u1 (fs.map Sx.zF), rowCs 102 9 u9 (es3 ++ [xc]), rowCs 106 4 (.slice none 0 0) []] (flRD (.slice a2 n2 c2) os (.slice a6 n6 c6) ns (.slice a5 n5 c5) rs ((ms.take (k + 1)).map Sx.zM) (es3 ++ [xc]) [] []) w10) := Lib.hid (by
            rw [HT.out, List.map_append, List.map_cons, List.map_nil, rowCs_snoc]
            exact HI6.out.push (L := [rowOf 150 10 fC u1 (fs.map Sx.zF)]) (M := [rowCs 106 4 (.slice none 0 0) []]) (r := rowCs 102 9 u3 es3) ho9 hg9 hat9 hB10 hg10 (fun h' hle => ⟨⟨HI6.out.rd.1.1.mono hle, HI6.out.rd.1.2.1.mono hle, HI6.out.rd.1.2.2.mono hle⟩, MsgsR.snoc (HXr.out.mono hle) (HI6.out.rd.2.1.mono hle), HI6.out.rd.2.2.mono hle⟩))
          have HX9 : Hid (Blk w10 g1 [.string (toB nm), .slice a1 n1 c1, .slice a2 n2 c2, .slice a3 n3 c3, .slice a4 n4 c4, .slice a5 n5 c5, .slice a6 n6 c6, .int .i64 li, .int .i64 co] ∧ Blk w10 gr zMs) := Lib.hid ⟨HI6.out.other (r := rowCs 102 9 u3 es3) (by simp) HX6.out.1 Hgs.out.1 Hgs.out.2.2.1 hg9 hg10, HI6.out.other (r := rowCs 102 9 u3 es3) (by simp) HX6.out.2 Hgs.out.2.1 Hgs.out.2.2.2.1 hg9 hg10⟩
          clear ho9 hg9 hat9 hone9 HB9 HB79 hB10 hg10 hs10
          refine hK.out _ _ (InvG.past trivial (by kernel_rfl)) (fun _ => ?_)
          clear hK
          refine fSxFlatA8_66 ?_
          refine wpAnyG_done (by kernel_rfl) ?_ _
          go_wp2_with fail
          go_roundw
          case rel => exact ⟨k + 1, u9, es3 ++ [xc], by omega, by go_num, H9, HX9, Lib.hid (by rw [List.length_append, HL.out]; rfl)⟩
          case measure => simp [intOf]; omega
        · obtain rfl : n3 = k := by omega
          have HI2 : Hid (Built h0 w6.heap.size gm w [.string (toB nm), u1, .slice a2 n2 c2, u3, (.slice none 0 0), .slice a5 n5 c5, .slice a6 n6 c6, .int .i64 0, .int .i64 0] [rowOf 150 10 fC u1 (fs.map Sx.zF), rowCs 102 9 u3 es3, rowCs 106 4 (.slice none 0 0) []] (flRD (.slice a2 n2 c2) os (.slice a6 n6 c6) ns (.slice a5 n5 c5) rs (ms.map Sx.zM) es3 [] []) wr) := Lib.hid (by
            have h1 := HI.out
            rw [List.take_of_length_le (by rw [← HR3.out.len, Hn3.out]; exact Nat.le_refl _)] at h1
            exact h1)
          clear HI
          obtain ⟨w21, hwr⟩ : ∃ z, z = wr := ⟨_, rfl⟩
          subst hwr
          have HI := HI2
          clear HI2
          have HL3 := HL
          clear hlt hkn
          have qs4 : w21.cell? ⟨g1, 4, none⟩ = some (.slice a4 n4 c4) := HX.out.1.cell (o := 4) rfl
          have hns4 : n4 ≤ 9223372036854775807 := by have := Hbd4.out; omega
          go_wp2_with fail
          clear qs4
          go_loopw [53] (fun iv wr => ∃ (k : Nat) (u4 : Value) (es4 : List (List Value)), k ≤ n4 ∧ iv = .int .i64 k ∧ Hid (Built h0 w6.heap.size gm w [.string (toB nm), u1, .slice a2 n2 c2, u3, u4, .slice a5 n5 c5, .slice a6 n6 c6, .int .i64 0, .int .i64 0] [rowOf 150 10 fC u1 (fs.map Sx.zF), rowCs 102 9 u3 es3, rowCs 106 4 u4 es4] (flRD (.slice a2 n2 c2) os (.slice a6 n6 c6) ns (.slice a5 n5 c5) rs (ms.map Sx.zM) es3 ((es.take k).map Sx.zE) es4) wr) ∧ Hid (Blk wr g1 [.string (toB nm), .slice a1 n1 c1, .slice a2 n2 c2, .slice a3 n3 c3, .slice a4 n4 c4, .slice a5 n5 c5, .slice a6 n6 c6, .int .i64 li, .int .i64 co] ∧ Blk wr gr zMs) ∧ Hid (es4.length = k)) (fun iv _ => n4 - (intOf iv).toNat)
          case atStart => exact ⟨0, .slice none 0 0, [], Nat.zero_le _, rfl, HI, HX, Lib.hid rfl⟩
          case round =>
            obtain ⟨k, u4, es4, hkn, rfl, HI, HX, HL⟩ := hrel
            by_cases hlt : k < n4
            · have hks : k < cs4.length := by rw [Hn4.out]; exact hlt
              have hkf : k < es.length := by rw [← HR4.out.len]; exact hks
              obtain ⟨b0, o0, hb0, hidx, hcell⟩ := FlatC.at (n := n4) (cap := c4) (a := a4) (HF4.out.mono HI.out.le) (by decide) (i := k) hks Tryz.underlying38 sizeRE
              have hrd := HR4.out.at hkf hks
              have HT : Hid (es.take (k + 1) = es.take k ++ [es[k]]) := Lib.hid (List.take_succ_eq_append_getElem hkf)
              have hr : wr.rangeAt b0 o0 cs4[k] := hcell

              clear hcell
              generalize es[k] = y at *
              generalize cs4[k] = yc at *
              have HRd := Lib.hid hrd; have HYl := Lib.hid hrd.size; have HY1 := Lib.hid hrd.one
              clear hrd
              go_upto_region 16 with (first
                | (refine wpList_load_seg rfl 106 _ rfl _ _ rfl _ _ hr Tryz.underlying106 rfl ?_ ?_; (· rw [HYl.out]; exact infoRE))
                | (refine wpList_alloc_lay rfl 106 rfl zEn zeroRE ?_; (intro w7 g7 hg7 hB7 hb7; clear hr))
                | (refine wpList_store_all rfl 106 _ _ rfl g7 yc rfl rfl zEn hB7 ?_ ?_ ?_ ?_; (· rw [HYl.out]; exact infoRE); (· exact HYl.out); (· exact HY1.out); (intro w8 hB8 hgr8; have hb8 := Below.grown hb7 hgr8 hb7.size (fun _ e => by cases e; exact hg7); clear hb7 hgr8 hB7)))
              have HI5 := Lib.hid ((HI.out.next (flRD_mono _ _ _ _ _ _ _ _ _ _) hb8).next (flRD_mono _ _ _ _ _ _ _ _ _ _) (Below.refl _ _).drew)
              have HX5 : Hid (Blk w8.drew g1 [.string (toB nm), .slice a1 n1 c1, .slice a2 n2 c2, .slice a3 n3 c3, .slice a4 n4 c4, .slice a5 n5 c5, .slice a6 n6 c6, .int .i64 li, .int .i64 co] ∧ Blk w8.drew gr zMs) := Lib.hid ⟨HX.out.1.below hb8.drew HX.out.1.lt, HX.out.2.below hb8.drew HX.out.2.lt⟩
              have HB7 : Hid (Blk w8.drew g7 yc) := Lib.hid hB8
              have Hn7 : Hid (∀ j, u4.ownBlock = some j → j = g7 → False) := Lib.hid (fun j hj e => by have h1 := ((HI.out.rows.own (rowCs 106 4 u4 es4) (by simp)).lt j hj).2; omega)
              clear hb8 hg7 hB8 hidx hb0
              go_wp2_with fail
              refine wp_region_G 7 (fun _ => True) (fun w' => Blk w' gm [.string (toB nm), u1, .slice a2 n2 c2, u3, u4, .slice a5 n5 c5, .slice a6 n6 c6, .int .i64 0, .int .i64 0] ∧ Blk w' g7 yc) (by kernel_rfl) trivial ⟨HI5.out.blk, HB7.out⟩ (fun _ => ?_)
              refine wpAnyG_take0 (i := 0) (v := .pointer (some ⟨gm, 4, none⟩)) rfl (by kernel_rfl) (fun _ _ _ h => h) (.inl ⟨by rfl, fun w hw => by go_simp⟩) (InvG.mk trivial ⟨HI5.out.blk, HB7.out⟩) ?_
              refine fSxFlatA8_66 ?_
              refine wpAnyG_take (i := 1) (v := u4) rfl (by kernel_rfl) (fun _ _ _ h => h) (.inl ⟨by rfl, fun w hw => by have hc := hw.2.1.cell (o := 4) (u := u4) rfl; clear hw; go_simp⟩) (InvG.mk trivial ⟨HI5.out.blk, HB7.out⟩) ?_
              refine fSxFlatA8_66 ?_
              refine wpAnyG_take (i := 2) (v := .agg yc.toArray) rfl (by kernel_rfl) (fun _ _ _ h => h) (yieldsIf_load_mid (by rfl) 106 _ rfl g7 0 (by go_simp) yc _ (fun w h => h.2.2.whole) Tryz.underlying106 rfl (by rw [HYl.out]; exact infoRE)) (InvG.mk trivial ⟨HI5.out.blk, HB7.out⟩) ?_
              refine fSxFlatA8_66 ?_
              refine wpAnyG_ready (rs := [3]) (by kernel_rfl) (by simp) ?_
              refine AllReadyG.plain rfl rfl (fun K hK => ?_) AllReadyG.nil
              go_simp
              refine (flatEnum_any h0 y yc w8.drew HI5.out.le HRd.out).mono ?_
              rintro e w11 ⟨xc, rfl, hx11, hb11⟩
              have HI6 := Lib.hid (HI5.out.next (flRD_mono _ _ _ _ _ _ _ _ _ _) hb11)
              have HX6 : Hid (Blk w11 g1 [.string (toB nm), .slice a1 n1 c1, .slice a2 n2 c2, .slice a3 n3 c3, .slice a4 n4 c4, .slice a5 n5 c5, .slice a6 n6 c6, .int .i64 li, .int .i64 co] ∧ Blk w11 gr zMs) := Lib.hid ⟨HX5.out.1.below hb11 HX5.out.1.lt, HX5.out.2.below hb11 HX5.out.2.lt⟩
              have HB7b := Lib.hid (HB7.out.below hb11 HB7.out.lt)
              have HXr := Lib.hid (hx11.mono HI5.out.fresh); have HXl := Lib.hid hx11.size; have HX1 := Lib.hid hx11.one
              clear hx11 hb11
              refine hK.out _ _ (InvG.mk trivial ⟨HI6.out.blk, HB7b.out⟩) (fun _ => ?_)
              clear hK
              refine fSxFlatA8_66 ?_
              refine wpAnyG_ready (rs := [4]) (by kernel_rfl) (by simp) ?_
              refine AllReadyG.plain rfl rfl (fun K hK => ?_) AllReadyG.nil
              refine wp_buildSlice1 38 106 _ rfl xc (.agg xc.toArray) (by go_simp) Tryz.underlying38 (by rw [HXl.out]; exact info2RE) (by rw [HXl.out]; decide) (by rw [HXl.out]; decide) rfl ?_
              refine hK.out _ _ (InvG.mk trivial ⟨(HI6.out.next (flRD_mono _ _ _ _ _ _ _ _ _ _) ((Below.refl _ _).alloc (Nat.le_refl _) _)).blk, HB7b.out.alloc _⟩) (fun _ => ?_)
              clear hK
              refine fSxFlatA8_66 ?_
              refine wpAnyG_ready (rs := [5]) (by kernel_rfl) (by simp) ?_
              refine AllReadyG.plain rfl rfl (fun K hK => ?_) AllReadyG.nil
              refine wp_append_own1 T_RE _ _ rfl xc (by go_simp) (show w11.ownsRow w6.heap.size 106 4 u4 es4.length es4.flatten from HI6.out.rows.own (rowCs 106 4 u4 es4) (by simp)) (by go_simp) HXl.out HX1.out (by have h1 := Hbd4.out; have h2 := HL.out; omega) HI6.out.lts.2.2 ?_
              intro u9 w9 ho9 hg9 hat9 hone9
              have HB9 := HI6.out.blk8 (r := rowCs 106 4 u4 es4) (by simp) hg9
              have HB79 : Blk w9 g7 yc := HB7b.out.grown hg9 (fun e => Hn7.out g7 e.symm rfl)
              refine hK.out _ _ (InvG.mk trivial ⟨HB9, HB79⟩) (fun _ => ?_)
              clear hK
              refine fSxFlatA8_66 ?_
              refine wpAnyG_take0 (i := 6) (v := .pointer (some ⟨gm, 4, none⟩)) rfl (by kernel_rfl) (fun _ _ _ h => h) (.inl ⟨by rfl, fun w hw => by go_simp⟩) (InvG.mk trivial ⟨HB9, HB79⟩) ?_
              refine fSxFlatA8_66 ?_
              refine wpAnyG_ready (rs := [7]) (by kernel_rfl) (by simp) ?_
              refine AllReadyG.plain rfl rfl (fun K hK => ?_) AllReadyG.nil
              refine wp_store_lay 38 _ _ rfl gm 4 u9 [u9] [.string (toB nm), u1, .slice a2 n2 c2, u3, u4, .slice a5 n5 c5, .slice a6 n6 c6, .int .i64 0, .int .i64 0] (by go_simp) (by go_simp) (one_cells hone9) HB9 info1RE (show 4 + 1 ≤ 9 by decide) (one1 hone9) ?_
              intro w10 hB10 hg10 hs10
              have H9 : Hid (Built h0 w6.heap.size gm w [.string (toB nm), u1, .slice a2 n2 c2, u3, u9, .slice a5 n5 c5, .slice a6 n6 c6, .int .i64 0, .int .i64 0] [rowOf 150 10 fC u1 (fs.map Sx.zF), rowCs 102 9 u3 es3, rowCs 106 4 u9 (es4 ++ [xc])] (flRD (.slice a2 n2 c2) os (.slice a6 n6 c6) ns (.slice a5 n5 c5) rs (ms.map Sx.zM) es3 ((es.take (k + 1)).map Sx.zE) (es4 ++ [xc])) w10) := Lib.hid (by
                rw [HT.out, List.map_append, List.map_cons, List.map_nil, rowCs_snoc]
                exact HI6.out.push (L := [rowOf 150 10 fC u1 (fs.map Sx.zF), rowCs 102 9 u3 es3]) (M := []) (r := rowCs 106 4 u4 es4) ho9 hg9 hat9 hB10 hg10 (fun h' hle => ⟨⟨HI6.out.rd.1.1.mono hle, HI6.out.rd.1.2.1.mono hle, HI6.out.rd.1.2.2.mono hle⟩, HI6.out.rd.2.1.mono hle, EnsR.snoc (HXr.out.mono hle) (HI6.out.rd.2.2.mono hle)⟩))
              have HX9 : Hid (Blk w10 g1 [.string (toB nm), .slice a1 n1 c1, .slice a2 n2 c2, .slice a3 n3 c3, .slice a4 n4 c4, .slice a5 n5 c5, .slice a6 n6 c6, .int .i64 li, .int .i64 co] ∧ Blk w10 gr zMs) := Lib.hid ⟨HI6.out.other (r := rowCs 106 4 u4 es4) (by simp) HX6.out.1 Hgs.out.1 Hgs.out.2.2.1 hg9 hg10, HI6.out.other (r := rowCs 106 4 u4 es4) (by simp) HX6.out.2 Hgs.out.2.1 Hgs.out.2.2.2.1 hg9 hg10⟩
              clear ho9 hg9 hat9 hone9 HB9 HB79 hB10 hg10 hs10
              refine hK.out _ _ (InvG.past trivial (by kernel_rfl)) (fun _ => ?_)
              clear hK
              refine fSxFlatA8_66 ?_
              refine wpAnyG_done (by kernel_rfl) ?_ _
              go_wp2_with fail
              go_roundw
              case rel => exact ⟨k + 1, u9, es4 ++ [xc], by omega, by go_num, H9, HX9, Lib.hid (by rw [List.length_append, HL.out]; rfl)⟩
              case measure => simp [intOf]; omega
            · obtain rfl : n4 = k := by omega
              have HI2 : Hid (Built h0 w6.heap.size gm w [.string (toB nm), u1, .slice a2 n2 c2, u3, u4, .slice a5 n5 c5, .slice a6 n6 c6, .int .i64 0, .int .i64 0] [rowOf 150 10 fC u1 (fs.map Sx.zF), rowCs 102 9 u3 es3, rowCs 106 4 u4 es4] (flRD (.slice a2 n2 c2) os (.slice a6 n6 c6) ns (.slice a5 n5 c5) rs (ms.map Sx.zM) es3 (es.map Sx.zE) es4) wr) := Lib.hid (by
                have h1 := HI.out
                rw [List.take_of_length_le (by rw [← HR4.out.len, Hn4.out]; exact Nat.le_refl _)] at h1
                exact h1)
              clear HI
              obtain ⟨w22, hwr⟩ : ∃ z, z = wr := ⟨_, rfl⟩
              subst hwr
              have HI := HI2
              clear HI2
              have HL4 := HL
              clear hlt hkn
              have hWm := HI.out.blk.whole
              have HBr := HX.out.2
              go_wp2_with (first
                | (refine wpList_load_seg rfl 102 _ rfl _ _ rfl _ _ hWm Tryz.underlying102 rfl infoRM ?_)
                | (refine wpList_store_all rfl 102 _ _ rfl gr [.string (toB nm), u1, .slice a2 n2 c2, u3, u4, .slice a5 n5 c5, .slice a6 n6 c6, .int .i64 0, .int .i64 0] rfl rfl zMs HBr infoRM rfl ?_ ?_; (· intro u hu; simp only [List.mem_cons, List.not_mem_nil, or_false] at hu; rcases hu with rfl | rfl | rfl | rfl | rfl | rfl | rfl | rfl | rfl <;> first | rfl | exact own_one (HI.out.rows.own _ (by simp only [List.mem_cons]; exact .inl rfl)) | exact own_one (HI.out.rows.own _ (by simp only [List.mem_cons]; exact .inr (.inl rfl))) | exact own_one (HI.out.rows.own _ (by simp only [List.mem_cons]; exact .inr (.inr (.inl rfl)))) | exact own_one (HI.out.rows.own _ (by simp only [List.mem_cons]; exact .inr (.inr (.inr (.inl rfl)))))); (intro w30 hB30 hgr30)))
              obtain ⟨hrd, hrows, hbel, _⟩ := HI.out.done (flRD_mono _ _ _ _ _ _ _ _ _ _) hgr30 Hgs.out.2.2.2.2 Hgs.out.2.1
              refine bodyPost_ret (v := .agg [.string (toB nm), u1, .slice a2 n2 c2, u3, u4, .slice a5 n5 c5, .slice a6 n6 c6, .int .i64 0, .int .i64 0].toArray) ?_ rfl ⟨_, rfl, ?_, hbel⟩
              · exact results_blk (p := 2) (ty := 102) rfl _ _ gr [.string (toB nm), u1, .slice a2 n2 c2, u3, u4, .slice a5 n5 c5, .slice a6 n6 c6, .int .i64 0, .int .i64 0] rfl hB30 _ Tryz.underlying102 rfl infoRM
              · show MsgR _ (Sx.zM _) _
                rw [Sx.zM_mk, MsgR]
                exact ⟨_, _, _, _, _, _, _, _, rfl, ⟨⟨FlatV.of_ownsJ (hrows.own (rowOf 150 10 fC u1 (fs.map Sx.zF)) (by simp)) (by have := HI.out.lts; omega), by show ((fs.map Sx.zF)).length ≤ 10000; rw [List.length_map]; rw [Hn1.out]; exact Hbd1.out⟩, hrd.1.1, ⟨FlatC.of_ownsJ (hrows.own (rowCs 102 9 u3 es3) (by simp)) (by have := HI.out.lts; omega) hrd.2.1.sizes, by rw [HL3.out]; exact Hbd3.out⟩, ⟨FlatC.of_ownsJ (hrows.own (rowCs 106 4 u4 es4) (by simp)) (by have := HI.out.lts; omega) hrd.2.2.sizes, by rw [HL4.out]; exact Hbd4.out⟩, hrd.1.2.2, hrd.1.2.1⟩, hrd.2.1, hrd.2.2⟩

theorem flatMessage_at : ∀ N, flatMessageAt N
  | 0 => fun h0 x cs w hsz _ _ => absurd hsz (Nat.not_lt_zero _)
  | N + 1 => flatMessage_succ N (flatMessage_at N)
theorem flatMessage_any (h0 : Frag) (x : Sx.Msg) (cs : List Value) (w : World) (hle : FLe h0 (frag w)) (hx : MsgR h0 x cs) :
    Calls Tryz.prog 41 #[.agg cs.toArray] w (TreePost (fun h x cs => MsgR h (Sx.zM x) cs) h0 w x) := flatMessage_at _ h0 x cs w (Nat.lt_succ_self _) hle hx

set_option maxHeartbeats 16000000 in
set_option maxRecDepth 100000 in
theorem flat_any (h0 : Frag) (x : Sx.Fil) (cs : List Value) (w : World) (hle : FLe h0 (frag w)) (hx : FilR h0 x cs) :
    Calls Tryz.prog 12 #[.agg cs.toArray] w (TreePost (fun h x cs => FilR h (Sx.zL x) cs) h0 w x) := by
  obtain ⟨nm, ms, es⟩ := x
  obtain ⟨v1, v2, cs1, cs2, hcs, ⟨q1, q2⟩, hr1, hr2⟩ := hx
  dsimp only at hcs hr1 hr2
  obtain ⟨a1, c1, e1, _, _, _⟩ := q1.1.len
  obtain ⟨a2, c2, e2, _, _, _⟩ := q2.1.len
  subst e1 e2 hcs
  have Hbd1 := Lib.hid q1.2
  have Hbd2 := Lib.hid q2.2
  have HF1 := Lib.hid q1.1
  have HF2 := Lib.hid q2.1
  have HR1 := Lib.hid hr1; have HR2 := Lib.hid hr2
  obtain ⟨n1, hn1⟩ : ∃ z, z = cs1.length := ⟨_, rfl⟩
  obtain ⟨n2, hn2⟩ : ∃ z, z = cs2.length := ⟨_, rfl⟩
  rw [← hn1] at Hbd1 HF1
  rw [← hn2] at Hbd2 HF2
  rw [← hn1, ← hn2]
  have Hn1 := Lib.hid hn1.symm
  have Hn2 := Lib.hid hn2.symm
  have Hle := Lib.hid hle
  have hbd := rFil_build
  clear hle hn1 hn2 q1 q2 hr1 hr2
  go_enter Tryz.func12, Tryz.ntmps12
  go_upto_region 1 with (first
    | (refine wpList_box_lay rfl 40 _ rfl [.string (toB nm), .slice a1 n1 c1, .slice a2 n2 c2] rfl ?_; (intro w1 g1 hg1 hB1 hb1))
    | (refine wpList_alloc_lay rfl 40 rfl zFl zeroRFl ?_; (intro w2 gr hgr hBr hb2)))
  have HB12 := Lib.hid (hB1.below hb2 hB1.lt); have HBr2 := Lib.hid hBr
  have Hb2 : Hid (Below w.heap.size w w2) := Lib.hid (hb1.trans (hb2.mono hb1.size))
  have Hg12 : Hid (w.heap.size ≤ gr) := Lib.hid (Nat.le_trans hb1.size hgr)
  clear hB1 hb1 hb2 hBr hgr hg1
  have z0 : w2.cell? ⟨g1, 0, none⟩ = some (.string (toB nm)) := HB12.out.cell (o := 0) rfl
  go_upto_region 2 with (first
    | (refine wpList_alloc_lay rfl 40 rfl zFl zeroRFl ?_; (intro w5 gm hgm hBv hb5))
    | (refine wpList_store_all rfl 40 _ _ rfl gm [.string (toB nm), (.slice none 0 0), (.slice none 0 0)] rfl rfl zFl hBv infoRFl rfl ?_ ?_; (· intro u hu; simp only [List.mem_cons, List.not_mem_nil, or_false] at hu; rcases hu with rfl | rfl | rfl <;> rfl); (intro w6 hB6 hgr6; have hb6 := Below.grown hb5 hgr6 hb5.size (fun _ e => by cases e; exact hgm); clear hb5 hgr6 hBv)))
  have HX : Hid (Blk w6 g1 [.string (toB nm), .slice a1 n1 c1, .slice a2 n2 c2] ∧ Blk w6 gr zFl) := Lib.hid ⟨HB12.out.below hb6 HB12.out.lt, HBr2.out.below hb6 HBr2.out.lt⟩
  have Hgs : Hid (g1 < w6.heap.size ∧ gr < w6.heap.size ∧ g1 ≠ gm ∧ gr ≠ gm ∧ w.heap.size ≤ gr) := Lib.hid ⟨HX.out.1.lt, HX.out.2.lt, fun e => by have := HB12.out.lt; omega, fun e => by have := HBr2.out.lt; omega, Hg12.out⟩
  have hdom := frag_dom Hle.out
  have HI : Hid (Built h0 w6.heap.size gm w [.string (toB nm), (.slice none 0 0), (.slice none 0 0)] [rowCs 102 9 (.slice none 0 0) [], rowCs 106 4 (.slice none 0 0) []] (filRD [] [] [] []) w6) := Lib.hid ⟨hB6, Rows.nil _ _ _ (fun r hr => by simp only [List.mem_cons, List.not_mem_nil, or_false] at hr; rcases hr with rfl | rfl <;> exact ⟨rfl, rfl, rfl⟩), ⟨by rw [MsgsR], by rw [EnsR]⟩, Hle.out.trans ((below_le Hb2.out).trans (below_le hb6)), Hb2.out.trans (hb6.mono Hb2.out.size), ⟨Nat.le_trans Hb2.out.size hgm, hB6.lt, Nat.le_refl _⟩, hdom⟩
  clear hB6 hgm hb6 hdom z0
  have qs1 : w6.cell? ⟨g1, 1, none⟩ = some (.slice a1 n1 c1) := HX.out.1.cell (o := 1) rfl
  have hns1 : n1 ≤ 9223372036854775807 := by have := Hbd1.out; omega
  go_wp2_with fail
  clear qs1
  go_loopw [14] (fun iv wr => ∃ (k : Nat) (u1 : Value) (es1 : List (List Value)), k ≤ n1 ∧ iv = .int .i64 k ∧ Hid (Built h0 w6.heap.size gm w [.string (toB nm), u1, (.slice none 0 0)] [rowCs 102 9 u1 es1, rowCs 106 4 (.slice none 0 0) []] (filRD ((ms.take k).map Sx.zM) es1 [] []) wr) ∧ Hid (Blk wr g1 [.string (toB nm), .slice a1 n1 c1, .slice a2 n2 c2] ∧ Blk wr gr zFl) ∧ Hid (es1.length = k)) (fun iv _ => n1 - (intOf iv).toNat)
  case atStart => exact ⟨0, .slice none 0 0, [], Nat.zero_le _, rfl, HI, HX, Lib.hid rfl⟩
  case round =>
    obtain ⟨k, u1, es1, hkn, rfl, HI, HX, HL⟩ := hrel
    by_cases hlt : k < n1
    · have hks : k < cs1.length := by rw [Hn1.out]; exact hlt
      have hkf : k < ms.length := by rw [← HR1.out.len]; exact hks
      obtain ⟨b0, o0, hb0, hidx, hcell⟩ := FlatC.at (n := n1) (cap := c1) (a := a1) (HF1.out.mono HI.out.le) (by decide) (i := k) hks Tryz.underlying37 sizeRM
      have hrd := HR1.out.at hkf hks
      have HT : Hid (ms.take (k + 1) = ms.take k ++ [ms[k]]) := Lib.hid (List.take_succ_eq_append_getElem hkf)
      have hr : wr.rangeAt b0 o0 cs1[k] := hcell

      clear hcell
      generalize ms[k] = y at *
      generalize cs1[k] = yc at *
      have HRd := Lib.hid hrd; have HYl := Lib.hid hrd.size; have HY1 := Lib.hid hrd.one
      clear hrd
      go_upto_region 5 with (first
        | (refine wpList_load_seg rfl 102 _ rfl _ _ rfl _ _ hr Tryz.underlying102 rfl ?_ ?_; (· rw [HYl.out]; exact infoRM))
        | (refine wpList_alloc_lay rfl 102 rfl zMs zeroRM ?_; (intro w7 g7 hg7 hB7 hb7; clear hr))
        | (refine wpList_store_all rfl 102 _ _ rfl g7 yc rfl rfl zMs hB7 ?_ ?_ ?_ ?_; (· rw [HYl.out]; exact infoRM); (· exact HYl.out); (· exact HY1.out); (intro w8 hB8 hgr8; have hb8 := Below.grown hb7 hgr8 hb7.size (fun _ e => by cases e; exact hg7); clear hb7 hgr8 hB7)))
      have HI5 := Lib.hid ((HI.out.next (filRD_mono _ _ _ _) hb8).next (filRD_mono _ _ _ _) (Below.refl _ _).drew)
      have HX5 : Hid (Blk w8.drew g1 [.string (toB nm), .slice a1 n1 c1, .slice a2 n2 c2] ∧ Blk w8.drew gr zFl) := Lib.hid ⟨HX.out.1.below hb8.drew HX.out.1.lt, HX.out.2.below hb8.drew HX.out.2.lt⟩
      have HB7 : Hid (Blk w8.drew g7 yc) := Lib.hid hB8
      have Hn7 : Hid (∀ j, u1.ownBlock = some j → j = g7 → False) := Lib.hid (fun j hj e => by have h1 := ((HI.out.rows.own (rowCs 102 9 u1 es1) (by simp)).lt j hj).2; omega)
      clear hb8 hg7 hB8 hidx hb0
      go_wp2_with fail
      refine wp_region_G 7 (fun _ => True) (fun w' => Blk w' gm [.string (toB nm), u1, (.slice none 0 0)] ∧ Blk w' g7 yc) (by kernel_rfl) trivial ⟨HI5.out.blk, HB7.out⟩ (fun _ => ?_)
      refine wpAnyG_take0 (i := 0) (v := .pointer (some ⟨gm, 1, none⟩)) rfl (by kernel_rfl) (fun _ _ _ h => h) (.inl ⟨by rfl, fun w hw => by go_simp⟩) (InvG.mk trivial ⟨HI5.out.blk, HB7.out⟩) ?_
      refine fSxFlatA8_42 ?_
      refine wpAnyG_take (i := 1) (v := u1) rfl (by kernel_rfl) (fun _ _ _ h => h) (.inl ⟨by rfl, fun w hw => by have hc := hw.2.1.cell (o := 1) (u := u1) rfl; clear hw; go_simp⟩) (InvG.mk trivial ⟨HI5.out.blk, HB7.out⟩) ?_
      refine fSxFlatA8_42 ?_
      refine wpAnyG_take (i := 2) (v := .agg yc.toArray) rfl (by kernel_rfl) (fun _ _ _ h => h) (yieldsIf_load_mid (by rfl) 102 _ rfl g7 0 (by go_simp) yc _ (fun w h => h.2.2.whole) Tryz.underlying102 rfl (by rw [HYl.out]; exact infoRM)) (InvG.mk trivial ⟨HI5.out.blk, HB7.out⟩) ?_
      refine fSxFlatA8_42 ?_
      refine wpAnyG_ready (rs := [3]) (by kernel_rfl) (by simp) ?_
      refine AllReadyG.plain rfl rfl (fun K hK => ?_) AllReadyG.nil
      go_simp
      refine (flatMessage_any h0 y yc w8.drew HI5.out.le HRd.out).mono ?_
      rintro e w11 ⟨xc, rfl, hx11, hb11⟩
      have HI6 := Lib.hid (HI5.out.next (filRD_mono _ _ _ _) hb11)
      have HX6 : Hid (Blk w11 g1 [.string (toB nm), .slice a1 n1 c1, .slice a2 n2 c2] ∧ Blk w11 gr zFl) := Lib.hid ⟨HX5.out.1.below hb11 HX5.out.1.lt, HX5.out.2.below hb11 HX5.out.2.lt⟩
      have HB7b := Lib.hid (HB7.out.below hb11 HB7.out.lt)
      have HXr := Lib.hid (hx11.mono HI5.out.fresh); have HXl := Lib.hid hx11.size; have HX1 := Lib.hid hx11.one
      clear hx11 hb11
      refine hK.out _ _ (InvG.mk trivial ⟨HI6.out.blk, HB7b.out⟩) (fun _ => ?_)
      clear hK
      refine fSxFlatA8_42 ?_
      refine wpAnyG_ready (rs := [4]) (by kernel_rfl) (by simp) ?_
      refine AllReadyG.plain rfl rfl (fun K hK => ?_) AllReadyG.nil
      refine wp_buildSlice1 37 102 _ rfl xc (.agg xc.toArray) (by go_simp) Tryz.underlying37 (by rw [HXl.out]; exact info2RM) (by rw [HXl.out]; decide) (by rw [HXl.out]; decide) rfl ?_
      refine hK.out _ _ (InvG.mk trivial ⟨(HI6.out.next (filRD_mono _ _ _ _) ((Below.refl _ _).alloc (Nat.le_refl _) _)).blk, HB7b.out.alloc _⟩) (fun _ => ?_)
      clear hK
      refine fSxFlatA8_42 ?_
      refine wpAnyG_ready (rs := [5]) (by kernel_rfl) (by simp) ?_
      refine AllReadyG.plain rfl rfl (fun K hK => ?_) AllReadyG.nil
      refine wp_append_own1 T_RM _ _ rfl xc (by go_simp) (show w11.ownsRow w6.heap.size 102 9 u1 es1.length es1.flatten from HI6.out.rows.own (rowCs 102 9 u1 es1) (by simp)) (by go_simp) HXl.out HX1.out (by have h1 := Hbd1.out; have h2 := HL.out; omega) HI6.out.lts.2.2 ?_
      intro u9 w9 ho9 hg9 hat9 hone9
      have HB9 := HI6.out.blk8 (r := rowCs 102 9 u1 es1) (by simp) hg9
      have HB79 : Blk w9 g7 yc := HB7b.out.grown hg9 (fun e => Hn7.out g7 e.symm rfl)
      refine hK.out _ _ (InvG.mk trivial ⟨HB9, HB79⟩) (fun _ => ?_)
      clear hK
      refine fSxFlatA8_42 ?_
      refine wpAnyG_take0 (i := 6) (v := .pointer (some ⟨gm, 1, none⟩)) rfl (by kernel_rfl) (fun _ _ _ h => h) (.inl ⟨by rfl, fun w hw => by go_simp⟩) (InvG.mk trivial ⟨HB9, HB79⟩) ?_
      refine fSxFlatA8_42 ?_
      refine wpAnyG_ready (rs := [7]) (by kernel_rfl) (by simp) ?_
      refine AllReadyG.plain rfl rfl (fun K hK => ?_) AllReadyG.nil
      refine wp_store_lay 37 _ _ rfl gm 1 u9 [u9] [.string (toB nm), u1, (.slice none 0 0)] (by go_simp) (by go_simp) (one_cells hone9) HB9 info1RM (show 1 + 1 ≤ 3 by decide) (one1 hone9) ?_
      intro w10 hB10 hg10 hs10
      have H9 : Hid (Built h0 w6.heap.size gm w [.string (toB nm), u9, (.slice none 0 0)] [rowCs 102 9 u9 (es1 ++ [xc]), rowCs 106 4 (.slice none 0 0) []] (filRD ((ms.take (k + 1)).map Sx.zM) (es1 ++ [xc]) [] []) w10) := Lib.hid (by
        rw [HT.out, List.map_append, List.map_cons, List.map_nil, rowCs_snoc]
        exact HI6.out.push (L := []) (M := [rowCs 106 4 (.slice none 0 0) []]) (r := rowCs 102 9 u1 es1) ho9 hg9 hat9 hB10 hg10 (fun h' hle => ⟨MsgsR.snoc (HXr.out.mono hle) (HI6.out.rd.1.mono hle), HI6.out.rd.2.mono hle⟩))
      have HX9 : Hid (Blk w10 g1 [.string (toB nm), .slice a1 n1 c1, .slice a2 n2 c2] ∧ Blk w10 gr zFl) := Lib.hid ⟨HI6.out.other (r := rowCs 102 9 u1 es1) (by simp) HX6.out.1 Hgs.out.1 Hgs.out.2.2.1 hg9 hg10, HI6.out.other (r := rowCs 102 9 u1 es1) (by simp) HX6.out.2 Hgs.out.2.1 Hgs.out.2.2.2.1 hg9 hg10⟩
      clear ho9 hg9 hat9 hone9 HB9 HB79 hB10 hg10 hs10
      refine hK.out _ _ (InvG.past trivial (by kernel_rfl)) (fun _ => ?_)
      clear hK
      refine fSxFlatA8_42 ?_
      refine wpAnyG_done (by kernel_rfl) ?_ _
      go_wp2_with fail
      go_roundw
      case rel => exact ⟨k + 1, u9, es1 ++ [xc], by omega, by go_num, H9, HX9, Lib.hid (by rw [List.length_append, HL.out]; rfl)⟩
      case measure => simp [intOf]; omega
    · obtain rfl : n1 = k := by omega
      have HI2 : Hid (Built h0 w6.heap.size gm w [.string (toB nm), u1, (.slice none 0 0)] [rowCs 102 9 u1 es1, rowCs 106 4 (.slice none 0 0) []] (filRD (ms.map Sx.zM) es1 [] []) wr) := Lib.hid (by
        have h1 := HI.out
        rw [List.take_of_length_le (by rw [← HR1.out.len, Hn1.out]; exact Nat.le_refl _)] at h1
        exact h1)
      clear HI
      obtain ⟨w20, hwr⟩ : ∃ z, z = wr := ⟨_, rfl⟩
      subst hwr
      have HI := HI2
      clear HI2
      have HL1 := HL
      clear hlt hkn
      have qs2 : w20.cell? ⟨g1, 2, none⟩ = some (.slice a2 n2 c2) := HX.out.1.cell (o := 2) rfl
      have hns2 : n2 ≤ 9223372036854775807 := by have := Hbd2.out; omega
      go_wp2_with fail
      clear qs2
      go_loopw [29] (fun iv wr => ∃ (k : Nat) (u2 : Value) (es2 : List (List Value)), k ≤ n2 ∧ iv = .int .i64 k ∧ Hid (Built h0 w6.heap.size gm w [.string (toB nm), u1, u2] [rowCs 102 9 u1 es1, rowCs 106 4 u2 es2] (filRD (ms.map Sx.zM) es1 ((es.take k).map Sx.zE) es2) wr) ∧ Hid (Blk wr g1 [.string (toB nm), .slice a1 n1 c1, .slice a2 n2 c2] ∧ Blk wr gr zFl) ∧ Hid (es2.length = k)) (fun iv _ => n2 - (intOf iv).toNat)
      case atStart => exact ⟨0, .slice none 0 0, [], Nat.zero_le _, rfl, HI, HX, Lib.hid rfl⟩
      case round =>
        obtain ⟨k, u2, es2, hkn, rfl, HI, HX, HL⟩ := hrel
        by_cases hlt : k < n2
        · have hks : k < cs2.length := by rw [Hn2.out]; exact hlt
          have hkf : k < es.length := by rw [← HR2.out.len]; exact hks
          obtain ⟨b0, o0, hb0, hidx, hcell⟩ := FlatC.at (n := n2) (cap := c2) (a := a2) (HF2.out.mono HI.out.le) (by decide) (i := k) hks Tryz.underlying38 sizeRE
          have hrd := HR2.out.at hkf hks
          have HT : Hid (es.take (k + 1) = es.take k ++ [es[k]]) := Lib.hid (List.take_succ_eq_append_getElem hkf)
          have hr : wr.rangeAt b0 o0 cs2[k] := hcell

          clear hcell
          generalize es[k] = y at *
          generalize cs2[k] = yc at *
          have HRd := Lib.hid hrd; have HYl := Lib.hid hrd.size; have HY1 := Lib.hid hrd.one
          clear hrd
          go_upto_region 10 with (first
            | (refine wpList_load_seg rfl 106 _ rfl _ _ rfl _ _ hr Tryz.underlying106 rfl ?_ ?_; (· rw [HYl.out]; exact infoRE))
            | (refine wpList_alloc_lay rfl 106 rfl zEn zeroRE ?_; (intro w7 g7 hg7 hB7 hb7; clear hr))
            | (refine wpList_store_all rfl 106 _ _ rfl g7 yc rfl rfl zEn hB7 ?_ ?_ ?_ ?_; (· rw [HYl.out]; exact infoRE); (· exact HYl.out); (· exact HY1.out); (intro w8 hB8 hgr8; have hb8 := Below.grown hb7 hgr8 hb7.size (fun _ e => by cases e; exact hg7); clear hb7 hgr8 hB7)))
          have HI5 := Lib.hid ((HI.out.next (filRD_mono _ _ _ _) hb8).next (filRD_mono _ _ _ _) (Below.refl _ _).drew)
          have HX5 : Hid (Blk w8.drew g1 [.string (toB nm), .slice a1 n1 c1, .slice a2 n2 c2] ∧ Blk w8.drew gr zFl) := Lib.hid ⟨HX.out.1.below hb8.drew HX.out.1.lt, HX.out.2.below hb8.drew HX.out.2.lt⟩
          have HB7 : Hid (Blk w8.drew g7 yc) := Lib.hid hB8
          have Hn7 : Hid (∀ j, u2.ownBlock = some j → j = g7 → False) := Lib.hid (fun j hj e => by have h1 := ((HI.out.rows.own (rowCs 106 4 u2 es2) (by simp)).lt j hj).2; omega)
          clear hb8 hg7 hB8 hidx hb0
          go_wp2_with fail
          refine wp_region_G 7 (fun _ => True) (fun w' => Blk w' gm [.string (toB nm), u1, u2] ∧ Blk w' g7 yc) (by kernel_rfl) trivial ⟨HI5.out.blk, HB7.out⟩ (fun _ => ?_)
          refine wpAnyG_take0 (i := 0) (v := .pointer (some ⟨gm, 2, none⟩)) rfl (by kernel_rfl) (fun _ _ _ h => h) (.inl ⟨by rfl, fun w hw => by go_simp⟩) (InvG.mk trivial ⟨HI5.out.blk, HB7.out⟩) ?_
          refine fSxFlatA8_42 ?_
          refine wpAnyG_take (i := 1) (v := u2) rfl (by kernel_rfl) (fun _ _ _ h => h) (.inl ⟨by rfl, fun w hw => by have hc := hw.2.1.cell (o := 2) (u := u2) rfl; clear hw; go_simp⟩) (InvG.mk trivial ⟨HI5.out.blk, HB7.out⟩) ?_
          refine fSxFlatA8_42 ?_
          refine wpAnyG_take (i := 2) (v := .agg yc.toArray) rfl (by kernel_rfl) (fun _ _ _ h => h) (yieldsIf_load_mid (by rfl) 106 _ rfl g7 0 (by go_simp) yc _ (fun w h => h.2.2.whole) Tryz.underlying106 rfl (by rw [HYl.out]; exact infoRE)) (InvG.mk trivial ⟨HI5.out.blk, HB7.out⟩) ?_
          refine fSxFlatA8_42 ?_
          refine wpAnyG_ready (rs := [3]) (by kernel_rfl) (by simp) ?_
          refine AllReadyG.plain rfl rfl (fun K hK => ?_) AllReadyG.nil
          go_simp
          refine (flatEnum_any h0 y yc w8.drew HI5.out.le HRd.out).mono ?_
          rintro e w11 ⟨xc, rfl, hx11, hb11⟩
          have HI6 := Lib.hid (HI5.out.next (filRD_mono _ _ _ _) hb11)
          have HX6 : Hid (Blk w11 g1 [.string (toB nm), .slice a1 n1 c1, .slice a2 n2 c2] ∧ Blk w11 gr zFl) := Lib.hid ⟨HX5.out.1.below hb11 HX5.out.1.lt, HX5.out.2.below hb11 HX5.out.2.lt⟩
          have HB7b := Lib.hid (HB7.out.below hb11 HB7.out.lt)
          have HXr := Lib.hid (hx11.mono HI5.out.fresh); have HXl := Lib.hid hx11.size; have HX1 := Lib.hid hx11.one
          clear hx11 hb11
          refine hK.out _ _ (InvG.mk trivial ⟨HI6.out.blk, HB7b.out⟩) (fun _ => ?_)
          clear hK
          refine fSxFlatA8_42 ?_
          refine wpAnyG_ready (rs := [4]) (by kernel_rfl) (by simp) ?_
          refine AllReadyG.plain rfl rfl (fun K hK => ?_) AllReadyG.nil
          refine wp_buildSlice1 38 106 _ rfl xc (.agg xc.toArray) (by go_simp) Tryz.underlying38 (by rw [HXl.out]; exact info2RE) (by rw [HXl.out]; decide) (by rw [HXl.out]; decide) rfl ?_
          refine hK.out _ _ (InvG.mk trivial ⟨(HI6.out.next (filRD_mono _ _ _ _) ((Below.refl _ _).alloc (Nat.le_refl _) _)).blk, HB7b.out.alloc _⟩) (fun _ => ?_)
          clear hK
          refine fSxFlatA8_42 ?_
          refine wpAnyG_ready (rs := [5]) (by kernel_rfl) (by simp) ?_
          refine AllReadyG.plain rfl rfl (fun K hK => ?_) AllReadyG.nil
          refine wp_append_own1 T_RE _ _ rfl xc (by go_simp) (show w11.ownsRow w6.heap.size 106 4 u2 es2.length es2.flatten from HI6.out.rows.own (rowCs 106 4 u2 es2) (by simp)) (by go_simp) HXl.out HX1.out (by have h1 := Hbd2.out; have h2 := HL.out; omega) HI6.out.lts.2.2 ?_
          intro u9 w9 ho9 hg9 hat9 hone9
          have HB9 := HI6.out.blk8 (r := rowCs 106 4 u2 es2) (by simp) hg9
          have HB79 : Blk w9 g7 yc := HB7b.out.grown hg9 (fun e => Hn7.out g7 e.symm rfl)
          refine hK.out _ _ (InvG.mk trivial ⟨HB9, HB79⟩) (fun _ => ?_)
          clear hK
          refine fSxFlatA8_42 ?_
          refine wpAnyG_take0 (i := 6) (v := .pointer (some ⟨gm, 2, none⟩)) rfl (by kernel_rfl) (fun _ _ _ h => h) (.inl ⟨by rfl, fun w hw => by go_simp⟩) (InvG.mk trivial ⟨HB9, HB79⟩) ?_
          refine fSxFlatA8_42 ?_
          refine wpAnyG_ready (rs := [7]) (by kernel_rfl) (by simp) ?_
          refine AllReadyG.plain rfl rfl (fun K hK => ?_) AllReadyG.nil
          refine wp_store_lay 38 _ _ rfl gm 2 u9 [u9] [.string (toB nm), u1, u2] (by go_simp) (by go_simp) (one_cells hone9) HB9 info1RE (show 2 + 1 ≤ 3 by decide) (one1 hone9) ?_
          intro w10 hB10 hg10 hs10
          have H9 : Hid (Built h0 w6.heap.size gm w [.string (toB nm), u1, u9] [rowCs 102 9 u1 es1, rowCs 106 4 u9 (es2 ++ [xc])] (filRD (ms.map Sx.zM) es1 ((es.take (k + 1)).map Sx.zE) (es2 ++ [xc])) w10) := Lib.hid (by
            rw [HT.out, List.map_append, List.map_cons, List.map_nil, rowCs_snoc]
            exact HI6.out.push (L := [rowCs 102 9 u1 es1]) (M := []) (r := rowCs 106 4 u2 es2) ho9 hg9 hat9 hB10 hg10 (fun h' hle => ⟨HI6.out.rd.1.mono hle, EnsR.snoc (HXr.out.mono hle) (HI6.out.rd.2.mono hle)⟩))
          have HX9 : Hid (Blk w10 g1 [.string (toB nm), .slice a1 n1 c1, .slice a2 n2 c2] ∧ Blk w10 gr zFl) := Lib.hid ⟨HI6.out.other (r := rowCs 106 4 u2 es2) (by simp) HX6.out.1 Hgs.out.1 Hgs.out.2.2.1 hg9 hg10, HI6.out.other (r := rowCs 106 4 u2 es2) (by simp) HX6.out.2 Hgs.out.2.1 Hgs.out.2.2.2.1 hg9 hg10⟩
          clear ho9 hg9 hat9 hone9 HB9 HB79 hB10 hg10 hs10
          refine hK.out _ _ (InvG.past trivial (by kernel_rfl)) (fun _ => ?_)
          clear hK
          refine fSxFlatA8_42 ?_
          refine wpAnyG_done (by kernel_rfl) ?_ _
          go_wp2_with fail
          go_roundw
          case rel => exact ⟨k + 1, u9, es2 ++ [xc], by omega, by go_num, H9, HX9, Lib.hid (by rw [List.length_append, HL.out]; rfl)⟩
          case measure => simp [intOf]; omega
        · obtain rfl : n2 = k := by omega
          have HI2 : Hid (Built h0 w6.heap.size gm w [.string (toB nm), u1, u2] [rowCs 102 9 u1 es1, rowCs 106 4 u2 es2] (filRD (ms.map Sx.zM) es1 (es.map Sx.zE) es2) wr) := Lib.hid (by
            have h1 := HI.out
            rw [List.take_of_length_le (by rw [← HR2.out.len, Hn2.out]; exact Nat.le_refl _)] at h1
            exact h1)
          clear HI
          obtain ⟨w21, hwr⟩ : ∃ z, z = wr := ⟨_, rfl⟩
          subst hwr
          have HI := HI2
          clear HI2
          have HL2 := HL
          clear hlt hkn
          have hWm := HI.out.blk.whole
          have HBr := HX.out.2
          go_wp2_with (first
            | (refine wpList_load_seg rfl 40 _ rfl _ _ rfl _ _ hWm Tryz.underlying40 rfl infoRFl ?_)
            | (refine wpList_store_all rfl 40 _ _ rfl gr [.string (toB nm), u1, u2] rfl rfl zFl HBr infoRFl rfl ?_ ?_; (· intro u hu; simp only [List.mem_cons, List.not_mem_nil, or_false] at hu; rcases hu with rfl | rfl | rfl <;> first | rfl | exact own_one (HI.out.rows.own _ (by simp only [List.mem_cons]; exact .inl rfl)) | exact own_one (HI.out.rows.own _ (by simp only [List.mem_cons]; exact .inr (.inl rfl))) | exact own_one (HI.out.rows.own _ (by simp only [List.mem_cons]; exact .inr (.inr (.inl rfl)))) | exact own_one (HI.out.rows.own _ (by simp only [List.mem_cons]; exact .inr (.inr (.inr (.inl rfl)))))); (intro w30 hB30 hgr30)))
          obtain ⟨hrd, hrows, hbel, _⟩ := HI.out.done (filRD_mono _ _ _ _) hgr30 Hgs.out.2.2.2.2 Hgs.out.2.1
          refine bodyPost_ret (v := .agg [.string (toB nm), u1, u2].toArray) ?_ rfl ⟨_, rfl, ?_, hbel⟩
          · exact results_blk (p := 2) (ty := 40) rfl _ _ gr [.string (toB nm), u1, u2] rfl hB30 _ Tryz.underlying40 rfl infoRFl
          · exact ⟨_, _, _, _, rfl, ⟨⟨FlatC.of_ownsJ (hrows.own (rowCs 102 9 u1 es1) (by simp)) (by have := HI.out.lts; omega) hrd.1.sizes, by rw [HL1.out]; exact Hbd1.out⟩, ⟨FlatC.of_ownsJ (hrows.own (rowCs 106 4 u2 es2) (by simp)) (by have := HI.out.lts; omega) hrd.2.sizes, by rw [HL2.out]; exact Hbd2.out⟩⟩, hrd.1, hrd.2⟩

end Go.Proofs.YtiofhfcohhfihaaGreatDoor
