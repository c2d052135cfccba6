/- How many fields a message has, walked. -/
import Derived.Test.YtiofhfcohhfihaaGreatDoorSxConv
import Derived.Test.YtiofhfcohhfihaaGreatDoorGroupB
namespace Go.Proofs.YtiofhfcohhfihaaGreatDoor
open Go.RowKit
set_option linter.unusedVariables false
set_option linter.unusedSimpArgs false

theorem cnt_take (l : List Sx.Msg) {k : Nat} (h : k < l.length) : Sx.cntMs (l.take (k + 1)) = Sx.cntMs (l.take k) + Sx.cntM l[k] := by
  rw [List.take_succ_eq_append_getElem h, Sx.cntMs_append]
  simp [Sx.cntMs]

def fieldsAt (N : Nat) : Prop := ∀ (a : Sx.Msg) (ca : List Value) (w : World), SizeOf.sizeOf a < N → Sx.cntM a ≤ 1000000000 → MsgR (frag w) a ca →
  Calls Tryz.prog 14 #[.agg ca.toArray] w fun e w' => e = .returned (.int .i64 (Sx.cntM a : Nat)) ∧ Below w.heap.size w w'
set_option maxHeartbeats 8000000 in
set_option maxRecDepth 100000 in
theorem fields_succ (N : Nat) (ih : fieldsAt N) : fieldsAt (N + 1) := by
  intro a ca w hsz hcn ha
  obtain ⟨nm, fs, os, ms, es, rs, ns, li, co⟩ := a
  have Hsize : Hid (∀ k ∈ ms, SizeOf.sizeOf k < N) := Lib.hid (fun k hk => by
    have h1 := List.sizeOf_lt_of_mem hk
    rw [Sx.Msg.mk.sizeOf_spec] at hsz
    omega)
  rw [MsgR] at ha
  obtain ⟨v1, v2, v3, v4, v5, v6, cs3, cs4, rfl, ⟨p1, p2, p3, p4, p5, p6⟩, r3, r4⟩ := ha
  rw [Sx.cntM] at hcn ⊢
  obtain ⟨a1, c1, rfl, _, _, _⟩ := p1.1.len
  obtain ⟨a3, c3, rfl, _, _, _⟩ := p3.1.len
  have HP3 := Lib.hid p3.1; have HR3 := Lib.hid r3
  obtain ⟨n1, hn1⟩ : ∃ z, z = fs.length := ⟨_, rfl⟩
  obtain ⟨n3, hn3⟩ : ∃ z, z = cs3.length := ⟨_, rfl⟩
  have hns : n3 ≤ 9223372036854775807 := by have := p3.2; omega
  obtain ⟨T, hT⟩ : ∃ T, T = n1 + Sx.cntMs ms := ⟨_, rfl⟩
  rw [← hn1] at hcn
  rw [← hn3] at HP3
  rw [← hn1, ← hn3, ← hT]
  have HT := Lib.hid hT; have Hn3 := Lib.hid hn3.symm
  have Hcn : Hid (T ≤ 1000000000) := Lib.hid (by rw [hT]; exact hcn)
  clear hT hn1 hn3 hcn hsz p1 p2 p3 p4 p5 p6 r3 r4
  go_enter Tryz.func14, Tryz.ntmps14
  go_upto_region 1 with (first
    | (refine wpList_box_lay rfl 47 _ rfl [.string (toB nm), .slice a1 n1 c1, v2, .slice a3 n3 c3, v4, v5, v6, .int .i64 li, .int .i64 co] rfl ?_; (intro w1 g1 hg1 hB1 hb1)))
  have x1 := hB1.cell (o := 1) rfl
  have x3 := hB1.cell (o := 3) rfl
  have Hb1 := Lib.hid hb1
  clear hB1 hb1 hg1
  go_wp2_with fail
  clear x1 x3
  go_loopw [3, 12] (fun acc iv wr => ∃ k : Nat, k ≤ n3 ∧ iv = .int .i64 k ∧ acc = .int .i64 (n1 + Sx.cntMs (ms.take k) : Nat) ∧ Hid (Below w.heap.size w wr)) (fun _ iv _ => n3 - (intOf iv).toNat)
  case atStart => exact ⟨0, Nat.zero_le _, rfl, rfl, Hb1⟩
  case round =>
    obtain ⟨k, hkn, rfl, rfl, HW⟩ := hrel
    by_cases hlt : k < n3
    · have hs1 : k < cs3.length := by rw [Hn3.out]; exact hlt
      have hk1 : k < ms.length := by rw [← HR3.out.len]; exact hs1
      obtain ⟨b0, o0, hb0, hidx0, hcell0⟩ := FlatC.at (n := n3) (cap := c3) (a := a3) (HP3.out.mono (below_le HW.out)) (by decide) (i := k) hs1 Tryz.underlying28 sizeSM
      have hr1 := HR3.out.at hk1 hs1
      have hq0 : wr.rangeAt b0 o0 cs3[k] := hcell0
      have hct := cnt_take ms hk1
      have hle : n1 + Sx.cntMs (ms.take (k + 1)) ≤ T := by
        rw [HT.out]
        have h1 : Sx.cntMs ms = Sx.cntMs (ms.take (k + 1)) + Sx.cntMs (ms.drop (k + 1)) := by rw [← Sx.cntMs_append, List.take_append_drop]
        omega
      have Hsz := Lib.hid (Hsize.out _ (List.getElem_mem hk1))
      have Hct := Lib.hid hct
      have hbd : Sx.cntM ms[k] ≤ 1000000000 := by have h1 := Hcn.out; omega
      have hac : n1 + Sx.cntMs (ms.take k) + Sx.cntM ms[k] ≤ 1000000000 := by have h1 := Hcn.out; omega
      clear hcell0 hct hle
      obtain ⟨x, hx⟩ : ∃ z, z = ms[k] := ⟨_, rfl⟩
      rw [← hx] at hr1 Hsz Hct hbd hac
      generalize cs3[k] = xc at *
      obtain ⟨ac, hac2⟩ : ∃ z, z = n1 + Sx.cntMs (ms.take k) := ⟨_, rfl⟩
      have Hac : Hid (n1 + Sx.cntMs (ms.take (k + 1)) = ac + Sx.cntM x) := Lib.hid (by rw [Hct.out, hac2]; omega)
      rw [← hac2] at hac ⊢
      have Hr1 := Lib.hid hr1; have Hx := Lib.hid hr1.size; have Hx1 := Lib.hid hr1.one
      clear hr1 hk1 hs1 hx hac2
      go_upto_region 5 with (first
        | (refine wpList_load_seg rfl 47 _ rfl _ _ rfl _ _ hq0 Tryz.underlying47 rfl ?_ ?_; (· rw [Hx.out]; exact infoMs))
        | (refine wpList_alloc_lay rfl 47 rfl zMs zeroMs ?_; (intro w3 g3 hg3 hB3 hb3; clear hq0))
        | (refine wpList_store_all rfl 47 _ _ rfl g3 xc rfl rfl zMs hB3 ?_ ?_ ?_ ?_; (· rw [Hx.out]; exact infoMs); (· exact Hx.out); (· exact Hx1.out); (intro w4 hB4 hgr4; have hb4 := Below.grown hb3 hgr4 hb3.size (fun _ e => by cases e; exact hg3); clear hb3 hgr4 hB3)))
      have hW3 := hB4.whole
      have HW4 : Hid (Below w.heap.size w w4) := Lib.hid (HW.out.trans (hb4.mono HW.out.size))
      have HC := Lib.hid (ih x xc w4 Hsz.out hbd (Hr1.out.mono (below_le HW4.out)))
      obtain ⟨cx, hcx⟩ : ∃ z, z = Sx.cntM x := ⟨_, rfl⟩
      rw [← hcx] at HC hac Hac hbd
      have hwr : IntKind.i64.wrap (((ac : Nat) : Int) + ((cx : Nat) : Int)) = ((ac : Nat) : Int) + ((cx : Nat) : Int) := IntWalk.i64_in _ (by omega)
      clear hB4 hb4 hg3 hidx0 hb0 hcx
      go_wp2_with (first
        | (refine wpList_load_seg rfl 47 _ rfl _ _ rfl _ _ hW3 Tryz.underlying47 rfl ?_ ?_; (· rw [Hx.out]; exact infoMs)))
      refine HC.out.mono ?_
      rintro e w7 ⟨rfl, hb7⟩
      have HW7 : Hid (Below w.heap.size w w7) := Lib.hid (HW4.out.trans (hb7.mono HW4.out.size))
      clear hb7 hW3
      go_wp2_with fail
      go_roundw
      case rel => exact ⟨k + 1, by omega, by go_num, by rw [Hac.out]; push_cast; rfl, HW7⟩
      case measure => simp [intOf]; omega
    · obtain rfl : n3 = k := by omega
      have HTt : Hid (n1 + Sx.cntMs (ms.take n3) = T) := Lib.hid (by rw [HT.out, List.take_of_length_le (by rw [← HR3.out.len, Hn3.out]; exact Nat.le_refl _)])
      go_wp2_with fail
      go_ret
      rw [← HTt.out]
      exact ⟨rfl, HW.out⟩
theorem fields_at : ∀ N, fieldsAt N
  | 0 => fun a ca w h => absurd h (Nat.not_lt_zero _)
  | N + 1 => fields_succ N (fields_at N)
theorem fields_any (a : Sx.Msg) (ca : List Value) (w : World) (hn : Sx.cntM a ≤ 1000000000) (ha : MsgR (frag w) a ca) :
    Calls Tryz.prog 14 #[.agg ca.toArray] w fun e w' => e = .returned (.int .i64 (Sx.cntM a : Nat)) ∧ Below w.heap.size w w' := fields_at _ a ca w (Nat.lt_succ_self _) hn ha

def countAt (N : Nat) : Prop := ∀ (a : Sx.Msg) (ca : List Value) (w : World), SizeOf.sizeOf a < N → Sx.cntM a ≤ 1000000000 → MsgR (frag w) a ca →
  Calls Tryz.prog 15 #[.agg ca.toArray] w fun e w' => e = .returned (.int .i64 (Sx.cntM a : Nat)) ∧ Below w.heap.size w w'
set_option maxHeartbeats 8000000 in
set_option maxRecDepth 100000 in
theorem count_succ (N : Nat) (ih : countAt N) : countAt (N + 1) := by
  intro a ca w hsz hcn ha
  obtain ⟨nm, fs, os, ms, es, rs, ns, li, co⟩ := a
  have Hsize : Hid (∀ k ∈ ms, SizeOf.sizeOf k < N) := Lib.hid (fun k hk => by
    have h1 := List.sizeOf_lt_of_mem hk
    rw [Sx.Msg.mk.sizeOf_spec] at hsz
    omega)
  rw [MsgR] at ha
  obtain ⟨v1, v2, v3, v4, v5, v6, cs3, cs4, rfl, ⟨p1, p2, p3, p4, p5, p6⟩, r3, r4⟩ := ha
  rw [Sx.cntM] at hcn ⊢
  obtain ⟨a1, c1, rfl, _, _, _⟩ := p1.1.len
  obtain ⟨a3, c3, rfl, _, _, _⟩ := p3.1.len
  have HP3 := Lib.hid p3.1; have HR3 := Lib.hid r3
  obtain ⟨n1, hn1⟩ : ∃ z, z = fs.length := ⟨_, rfl⟩
  obtain ⟨n3, hn3⟩ : ∃ z, z = cs3.length := ⟨_, rfl⟩
  have hns : n3 ≤ 9223372036854775807 := by have := p3.2; omega
  obtain ⟨T, hT⟩ : ∃ T, T = n1 + Sx.cntMs ms := ⟨_, rfl⟩
  rw [← hn1] at hcn
  rw [← hn3] at HP3
  rw [← hn1, ← hn3, ← hT]
  have HT := Lib.hid hT; have Hn3 := Lib.hid hn3.symm
  have Hcn : Hid (T ≤ 1000000000) := Lib.hid (by rw [hT]; exact hcn)
  clear hT hn1 hn3 hcn hsz p1 p2 p3 p4 p5 p6 r3 r4
  go_enter Tryz.func15, Tryz.ntmps15
  go_upto_region 1 with (first
    | (refine wpList_box_lay rfl 47 _ rfl [.string (toB nm), .slice a1 n1 c1, v2, .slice a3 n3 c3, v4, v5, v6, .int .i64 li, .int .i64 co] rfl ?_; (intro w1 g1 hg1 hB1 hb1)))
  have x1 := hB1.cell (o := 1) rfl
  have x3 := hB1.cell (o := 3) rfl
  have Hb1 := Lib.hid hb1
  clear hB1 hb1 hg1
  go_wp2_with fail
  clear x1 x3
  go_loopw [3, 12] (fun acc iv wr => ∃ k : Nat, k ≤ n3 ∧ iv = .int .i64 k ∧ acc = .int .i64 (n1 + Sx.cntMs (ms.take k) : Nat) ∧ Hid (Below w.heap.size w wr)) (fun _ iv _ => n3 - (intOf iv).toNat)
  case atStart => exact ⟨0, Nat.zero_le _, rfl, rfl, Hb1⟩
  case round =>
    obtain ⟨k, hkn, rfl, rfl, HW⟩ := hrel
    by_cases hlt : k < n3
    · have hs1 : k < cs3.length := by rw [Hn3.out]; exact hlt
      have hk1 : k < ms.length := by rw [← HR3.out.len]; exact hs1
      obtain ⟨b0, o0, hb0, hidx0, hcell0⟩ := FlatC.at (n := n3) (cap := c3) (a := a3) (HP3.out.mono (below_le HW.out)) (by decide) (i := k) hs1 Tryz.underlying28 sizeSM
      have hr1 := HR3.out.at hk1 hs1
      have hq0 : wr.rangeAt b0 o0 cs3[k] := hcell0
      have hct := cnt_take ms hk1
      have hle : n1 + Sx.cntMs (ms.take (k + 1)) ≤ T := by
        rw [HT.out]
        have h1 : Sx.cntMs ms = Sx.cntMs (ms.take (k + 1)) + Sx.cntMs (ms.drop (k + 1)) := by rw [← Sx.cntMs_append, List.take_append_drop]
        omega
      have Hsz := Lib.hid (Hsize.out _ (List.getElem_mem hk1))
      have Hct := Lib.hid hct
      have hbd : Sx.cntM ms[k] ≤ 1000000000 := by have h1 := Hcn.out; omega
      have hac : n1 + Sx.cntMs (ms.take k) + Sx.cntM ms[k] ≤ 1000000000 := by have h1 := Hcn.out; omega
      clear hcell0 hct hle
      obtain ⟨x, hx⟩ : ∃ z, z = ms[k] := ⟨_, rfl⟩
      rw [← hx] at hr1 Hsz Hct hbd hac
      generalize cs3[k] = xc at *
      obtain ⟨ac, hac2⟩ : ∃ z, z = n1 + Sx.cntMs (ms.take k) := ⟨_, rfl⟩
      have Hac : Hid (n1 + Sx.cntMs (ms.take (k + 1)) = ac + Sx.cntM x) := Lib.hid (by rw [Hct.out, hac2]; omega)
      rw [← hac2] at hac ⊢
      have Hr1 := Lib.hid hr1; have Hx := Lib.hid hr1.size; have Hx1 := Lib.hid hr1.one
      clear hr1 hk1 hs1 hx hac2
      go_upto_region 5 with (first
        | (refine wpList_load_seg rfl 47 _ rfl _ _ rfl _ _ hq0 Tryz.underlying47 rfl ?_ ?_; (· rw [Hx.out]; exact infoMs))
        | (refine wpList_alloc_lay rfl 47 rfl zMs zeroMs ?_; (intro w3 g3 hg3 hB3 hb3; clear hq0))
        | (refine wpList_store_all rfl 47 _ _ rfl g3 xc rfl rfl zMs hB3 ?_ ?_ ?_ ?_; (· rw [Hx.out]; exact infoMs); (· exact Hx.out); (· exact Hx1.out); (intro w4 hB4 hgr4; have hb4 := Below.grown hb3 hgr4 hb3.size (fun _ e => by cases e; exact hg3); clear hb3 hgr4 hB3)))
      have hW3 := hB4.whole
      have HW4 : Hid (Below w.heap.size w w4) := Lib.hid (HW.out.trans (hb4.mono HW.out.size))
      have HC := Lib.hid (ih x xc w4 Hsz.out hbd (Hr1.out.mono (below_le HW4.out)))
      obtain ⟨cx, hcx⟩ : ∃ z, z = Sx.cntM x := ⟨_, rfl⟩
      rw [← hcx] at HC hac Hac hbd
      have hwr : IntKind.i64.wrap (((ac : Nat) : Int) + ((cx : Nat) : Int)) = ((ac : Nat) : Int) + ((cx : Nat) : Int) := IntWalk.i64_in _ (by omega)
      clear hB4 hb4 hg3 hidx0 hb0 hcx
      go_wp2_with (first
        | (refine wpList_load_seg rfl 47 _ rfl _ _ rfl _ _ hW3 Tryz.underlying47 rfl ?_ ?_; (· rw [Hx.out]; exact infoMs)))
      refine HC.out.mono ?_
      rintro e w7 ⟨rfl, hb7⟩
      have HW7 : Hid (Below w.heap.size w w7) := Lib.hid (HW4.out.trans (hb7.mono HW4.out.size))
      clear hb7 hW3
      go_wp2_with fail
      go_roundw
      case rel => exact ⟨k + 1, by omega, by go_num, by rw [Hac.out]; push_cast; rfl, HW7⟩
      case measure => simp [intOf]; omega
    · obtain rfl : n3 = k := by omega
      have HTt : Hid (n1 + Sx.cntMs (ms.take n3) = T) := Lib.hid (by rw [HT.out, List.take_of_length_le (by rw [← HR3.out.len, Hn3.out]; exact Nat.le_refl _)])
      go_wp2_with fail
      go_ret
      rw [← HTt.out]
      exact ⟨rfl, HW.out⟩
theorem count_at : ∀ N, countAt N
  | 0 => fun a ca w h => absurd h (Nat.not_lt_zero _)
  | N + 1 => count_succ N (count_at N)
theorem count_any (a : Sx.Msg) (ca : List Value) (w : World) (hn : Sx.cntM a ≤ 1000000000) (ha : MsgR (frag w) a ca) :
    Calls Tryz.prog 15 #[.agg ca.toArray] w fun e w' => e = .returned (.int .i64 (Sx.cntM a : Nat)) ∧ Below w.heap.size w w' := count_at _ a ca w (Nat.lt_succ_self _) hn ha

end Go.Proofs.YtiofhfcohhfihaaGreatDoor
