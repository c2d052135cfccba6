/- apply.do, walked. -/
import Derived.Test.YtkldcjlkeblggaaDoorDBook
namespace Go.Proofs.YtkldcjlkeblggaaDoor
open Go.RowKit
open Val (V E cmp right eright esm esmF esmS esmK v0 Res ado adoF adoS adoK get find withV putV vmx vmxL esz eszF eszS eszK partB stepB allF allS allK mkL KI KP KeysOf headKind setRest)
set_option linter.unusedVariables false
set_option linter.unusedSimpArgs false

theorem RetR.carry {er : Errs} {F : List (Option Nat)} {w w' : World} {r : Res V} {e : Ending} (h : RetR er F w r e w') : ∃ (cs : List Value) (ev : Value), e = .returned (.tuple #[.agg cs.toArray, ev]) ∧ cs.length = 7 ∧ (∀ u ∈ cs, u.oneCell' = true) ∧ Below w.heap.size w w' ∧
    ∀ (w0 w4 : World) (E' : List (Option Nat)), Below w0.heap.size w0 w4 → FLe (fragE w' F) (fragE w4 E') → RetR er E' w0 r e w4 := by
  obtain ⟨hb, h⟩ := h
  cases r with
  | bad b => exact ⟨zV, _, h, rfl, zV_one, hb, fun w0 w4 E' h1 h2 => ⟨h1, h⟩⟩
  | ok x =>
    obtain ⟨xc, h1, h2⟩ := h
    exact ⟨xc, _, h1, h2.len, h2.shape.one, hb, fun w0 w4 E' h3 h4 => ⟨h3, xc, h1, h2.mono h4⟩⟩
theorem ff_of {F : List (Option Nat)} {w w2 : World} {g4 : Nat} (HF : ∀ k, some k ∈ F → k < w.heap.size) (hb0 : Below w.heap.size w w2) (h4 : g4 < w2.heap.size) : ∀ k, some k ∈ some g4 :: F → k < w2.heap.size := fun k hk => by
  rcases List.mem_cons.1 hk with hk | hk
  · cases hk; exact h4
  · exact Nat.lt_of_lt_of_le (HF k hk) hb0.size
theorem fle_of {F : List (Option Nat)} {w w2 : World} {g4 : Nat} (hb0 : Below w.heap.size w w2) (hg4 : w.heap.size ≤ g4) : FLe (fragE w F) (fragE w2 (some g4 :: F)) := belowE hb0 (fun k hk => by
  rcases List.mem_cons.1 hk with hk | hk
  · right; cases hk; exact hg4
  · exact .inl hk)

set_option maxRecDepth 100000 in
set_option maxHeartbeats 4000000 in
theorem do_swap (er : Errs) (F : List (Option Nat)) (x : E) (v : V) (xc vc : List Value) (w : World) (hF : ∀ k, some k ∈ F → k < w.heap.size) (hx : ER (fragE w F) x xc) (hv : VR (fragE w F) v vc) (hk : x.kind = 1) (R : Res V)
    (HC : ∀ (E : List (Option Nat)) (wx : World), (∀ k, some k ∈ E → k < wx.heap.size) → Below w.heap.size w wx → FLe (fragE w F) (fragE wx E) → Calls Tryd.prog 32 #[.agg xc.toArray, .agg vc.toArray] wx (RetR er E wx R)) :
    Calls Tryd.prog 16 #[.agg xc.toArray, .agg vc.toArray] w (RetR er F w R) := by
  have HX := Lib.hid (fun (w2 : World) (g : Nat) (hB : Blk w2 g xc) => (hB.cell (o := 0) hx.k0 : w2.cell? ⟨g, 0, none⟩ = some (.int .i64 x.kind)))
  rw [hk] at HX
  have HLx := Lib.hid hx.shape.len; have HLv := Lib.hid hv.len
  have HCC := Lib.hid HC; have HF := Lib.hid hF
  clear hx hv hk HC hF
  go_enter Tryd.func16, Tryd.ntmps16
  go_wp2_with (first
    | (refine wpList_box_lay rfl 32 _ rfl _ rfl ?_; (intro w0 g0 hg0 hB0 hb0))
    | (refine wpList_box_lay rfl 27 _ rfl _ rfl ?_; (intro w1 g1 hg1 hB1 hb1; replace hB0 := hB0.below hb1 hB0.lt; replace hb0 := hb0.trans (hb1.mono hb0.size)))
    | (refine wpList_alloc_lay rfl 27 rfl zV zeroV ?_; (intro w2 g4 hg4 hB4 hb2; replace hB0 := hB0.below hb2 hB0.lt; replace hB1 := hB1.below hb2 hB1.lt; replace hg4 := Nat.le_trans hb0.size hg4; replace hb0 := hb0.trans (hb2.mono hb0.size); clear hb1 hb2; have q0 := HX.out _ _ hB0; have HFF : Hid (∀ k, some k ∈ some g4 :: F → k < w2.heap.size) := ff_of HF.out hb0 hB4.lt; have Hle : Hid (FLe (fragE w F) (fragE w2 (some g4 :: F))) := fle_of hb0 hg4; have Hb := Lib.hid hb0; have r0 := hB0.whole; have r1 := hB1.whole; clear hB0 hB1 hg0 hg1 hb0))
    | (refine wpList_load_seg rfl 32 _ rfl _ _ rfl _ _ r0 Tryd.underlying32 rfl ?_ ?_; (· exact infoE.trans (congrArg some HLx.out.symm)))
    | (refine wpList_load_seg rfl 27 _ rfl _ _ rfl _ _ r1 Tryd.underlying27 rfl ?_ ?_; (· exact infoV.trans (congrArg some HLv.out.symm)))
    | (go_at_call 32; (with_reducible refine (HCC.out (some g4 :: F) w2 HFF.out Hb.out Hle.out).mono ?_); rintro e w3 hR; obtain ⟨cs, ev, rfl, hcl, hc1, hbR, hfin⟩ := hR.carry; have Hcl := Lib.hid hcl; have Hc1 := Lib.hid hc1; have Hfin := Lib.hid hfin; have Hb3 : Hid (Below w.heap.size w w3) := Hb.out.trans (hbR.mono Hb.out.size); replace hB4 := hB4.below hbR hB4.lt; clear hR hcl hc1 hbR hfin r0 r1 q0)
    | (refine wpList_store_all rfl 27 _ _ rfl g4 cs rfl rfl zV hB4 ?_ ?_ ?_ ?_; (· exact infoV.trans (congrArg some Hcl.out.symm)); (· exact Hcl.out); (· exact Hc1.out); (intro w4 hB6 hgr6; have Hgr6 := Lib.hid hgr6; clear hgr6 hB4)))
  refine bodyPost_ret (v := .tuple #[.agg cs.toArray, ev]) (results2_blk rfl _ _ g4 cs ev rfl rfl hB6 _ Tryd.underlying27 rfl (infoV.trans (congrArg some Hcl.out.symm))) rfl ?_
  exact Hfin.out w w4 F (Below.grown Hb3.out Hgr6.out Hb3.out.size (fun _ e => by cases e; exact hg4)) (grownE Hgr6.out (.inr (by simp)) (fun k hk => .inl (List.mem_cons_of_mem _ hk)))

set_option maxRecDepth 100000 in
set_option maxHeartbeats 4000000 in
theorem do_into (er : Errs) (F : List (Option Nat)) (x : E) (v : V) (xc vc : List Value) (w : World) (hF : ∀ k, some k ∈ F → k < w.heap.size) (hx : ER (fragE w F) x xc) (hv : VR (fragE w F) v vc) (hk : x.kind = 2) (R : Res V)
    (HC : ∀ (E : List (Option Nat)) (wx : World), (∀ k, some k ∈ E → k < wx.heap.size) → Below w.heap.size w wx → FLe (fragE w F) (fragE wx E) → Calls Tryd.prog 33 #[.agg xc.toArray, .agg vc.toArray] wx (RetR er E wx R)) :
    Calls Tryd.prog 16 #[.agg xc.toArray, .agg vc.toArray] w (RetR er F w R) := by
  have HX := Lib.hid (fun (w2 : World) (g : Nat) (hB : Blk w2 g xc) => (hB.cell (o := 0) hx.k0 : w2.cell? ⟨g, 0, none⟩ = some (.int .i64 x.kind)))
  rw [hk] at HX
  have HLx := Lib.hid hx.shape.len; have HLv := Lib.hid hv.len
  have HCC := Lib.hid HC; have HF := Lib.hid hF
  clear hx hv hk HC hF
  go_enter Tryd.func16, Tryd.ntmps16
  go_wp2_with (first
    | (refine wpList_box_lay rfl 32 _ rfl _ rfl ?_; (intro w0 g0 hg0 hB0 hb0))
    | (refine wpList_box_lay rfl 27 _ rfl _ rfl ?_; (intro w1 g1 hg1 hB1 hb1; replace hB0 := hB0.below hb1 hB0.lt; replace hb0 := hb0.trans (hb1.mono hb0.size)))
    | (refine wpList_alloc_lay rfl 27 rfl zV zeroV ?_; (intro w2 g4 hg4 hB4 hb2; replace hB0 := hB0.below hb2 hB0.lt; replace hB1 := hB1.below hb2 hB1.lt; replace hg4 := Nat.le_trans hb0.size hg4; replace hb0 := hb0.trans (hb2.mono hb0.size); clear hb1 hb2; have q0 := HX.out _ _ hB0; have HFF : Hid (∀ k, some k ∈ some g4 :: F → k < w2.heap.size) := ff_of HF.out hb0 hB4.lt; have Hle : Hid (FLe (fragE w F) (fragE w2 (some g4 :: F))) := fle_of hb0 hg4; have Hb := Lib.hid hb0; have r0 := hB0.whole; have r1 := hB1.whole; clear hB0 hB1 hg0 hg1 hb0))
    | (refine wpList_load_seg rfl 32 _ rfl _ _ rfl _ _ r0 Tryd.underlying32 rfl ?_ ?_; (· exact infoE.trans (congrArg some HLx.out.symm)))
    | (refine wpList_load_seg rfl 27 _ rfl _ _ rfl _ _ r1 Tryd.underlying27 rfl ?_ ?_; (· exact infoV.trans (congrArg some HLv.out.symm)))
    | (go_at_call 33; (with_reducible refine (HCC.out (some g4 :: F) w2 HFF.out Hb.out Hle.out).mono ?_); rintro e w3 hR; obtain ⟨cs, ev, rfl, hcl, hc1, hbR, hfin⟩ := hR.carry; have Hcl := Lib.hid hcl; have Hc1 := Lib.hid hc1; have Hfin := Lib.hid hfin; have Hb3 : Hid (Below w.heap.size w w3) := Hb.out.trans (hbR.mono Hb.out.size); replace hB4 := hB4.below hbR hB4.lt; clear hR hcl hc1 hbR hfin r0 r1 q0)
    | (refine wpList_store_all rfl 27 _ _ rfl g4 cs rfl rfl zV hB4 ?_ ?_ ?_ ?_; (· exact infoV.trans (congrArg some Hcl.out.symm)); (· exact Hcl.out); (· exact Hc1.out); (intro w4 hB6 hgr6; have Hgr6 := Lib.hid hgr6; clear hgr6 hB4)))
  refine bodyPost_ret (v := .tuple #[.agg cs.toArray, ev]) (results2_blk rfl _ _ g4 cs ev rfl rfl hB6 _ Tryd.underlying27 rfl (infoV.trans (congrArg some Hcl.out.symm))) rfl ?_
  exact Hfin.out w w4 F (Below.grown Hb3.out Hgr6.out Hb3.out.size (fun _ e => by cases e; exact hg4)) (grownE Hgr6.out (.inr (by simp)) (fun k hk => .inl (List.mem_cons_of_mem _ hk)))

set_option maxRecDepth 100000 in
set_option maxHeartbeats 4000000 in
theorem do_row (er : Errs) (F : List (Option Nat)) (x : E) (v : V) (xc vc : List Value) (w : World) (hF : ∀ k, some k ∈ F → k < w.heap.size) (hx : ER (fragE w F) x xc) (hv : VR (fragE w F) v vc) (hk : x.kind = 3) (R : Res V)
    (HC : ∀ (E : List (Option Nat)) (wx : World), (∀ k, some k ∈ E → k < wx.heap.size) → Below w.heap.size w wx → FLe (fragE w F) (fragE wx E) → Calls Tryd.prog 34 #[.agg xc.toArray, .agg vc.toArray] wx (RetR er E wx R)) :
    Calls Tryd.prog 16 #[.agg xc.toArray, .agg vc.toArray] w (RetR er F w R) := by
  have HX := Lib.hid (fun (w2 : World) (g : Nat) (hB : Blk w2 g xc) => (hB.cell (o := 0) hx.k0 : w2.cell? ⟨g, 0, none⟩ = some (.int .i64 x.kind)))
  rw [hk] at HX
  have HLx := Lib.hid hx.shape.len; have HLv := Lib.hid hv.len
  have HCC := Lib.hid HC; have HF := Lib.hid hF
  clear hx hv hk HC hF
  go_enter Tryd.func16, Tryd.ntmps16
  go_wp2_with (first
    | (refine wpList_box_lay rfl 32 _ rfl _ rfl ?_; (intro w0 g0 hg0 hB0 hb0))
    | (refine wpList_box_lay rfl 27 _ rfl _ rfl ?_; (intro w1 g1 hg1 hB1 hb1; replace hB0 := hB0.below hb1 hB0.lt; replace hb0 := hb0.trans (hb1.mono hb0.size)))
    | (refine wpList_alloc_lay rfl 27 rfl zV zeroV ?_; (intro w2 g4 hg4 hB4 hb2; replace hB0 := hB0.below hb2 hB0.lt; replace hB1 := hB1.below hb2 hB1.lt; replace hg4 := Nat.le_trans hb0.size hg4; replace hb0 := hb0.trans (hb2.mono hb0.size); clear hb1 hb2; have q0 := HX.out _ _ hB0; have HFF : Hid (∀ k, some k ∈ some g4 :: F → k < w2.heap.size) := ff_of HF.out hb0 hB4.lt; have Hle : Hid (FLe (fragE w F) (fragE w2 (some g4 :: F))) := fle_of hb0 hg4; have Hb := Lib.hid hb0; have r0 := hB0.whole; have r1 := hB1.whole; clear hB0 hB1 hg0 hg1 hb0))
    | (refine wpList_load_seg rfl 32 _ rfl _ _ rfl _ _ r0 Tryd.underlying32 rfl ?_ ?_; (· exact infoE.trans (congrArg some HLx.out.symm)))
    | (refine wpList_load_seg rfl 27 _ rfl _ _ rfl _ _ r1 Tryd.underlying27 rfl ?_ ?_; (· exact infoV.trans (congrArg some HLv.out.symm)))
    | (go_at_call 34; (with_reducible refine (HCC.out (some g4 :: F) w2 HFF.out Hb.out Hle.out).mono ?_); rintro e w3 hR; obtain ⟨cs, ev, rfl, hcl, hc1, hbR, hfin⟩ := hR.carry; have Hcl := Lib.hid hcl; have Hc1 := Lib.hid hc1; have Hfin := Lib.hid hfin; have Hb3 : Hid (Below w.heap.size w w3) := Hb.out.trans (hbR.mono Hb.out.size); replace hB4 := hB4.below hbR hB4.lt; clear hR hcl hc1 hbR hfin r0 r1 q0)
    | (refine wpList_store_all rfl 27 _ _ rfl g4 cs rfl rfl zV hB4 ?_ ?_ ?_ ?_; (· exact infoV.trans (congrArg some Hcl.out.symm)); (· exact Hcl.out); (· exact Hc1.out); (intro w4 hB6 hgr6; have Hgr6 := Lib.hid hgr6; clear hgr6 hB4)))
  refine bodyPost_ret (v := .tuple #[.agg cs.toArray, ev]) (results2_blk rfl _ _ g4 cs ev rfl rfl hB6 _ Tryd.underlying27 rfl (infoV.trans (congrArg some Hcl.out.symm))) rfl ?_
  exact Hfin.out w w4 F (Below.grown Hb3.out Hgr6.out Hb3.out.size (fun _ e => by cases e; exact hg4)) (grownE Hgr6.out (.inr (by simp)) (fun k hk => .inl (List.mem_cons_of_mem _ hk)))

set_option maxRecDepth 100000 in
set_option maxHeartbeats 4000000 in
theorem do_book (er : Errs) (F : List (Option Nat)) (x : E) (v : V) (xc vc : List Value) (w : World) (hF : ∀ k, some k ∈ F → k < w.heap.size) (hx : ER (fragE w F) x xc) (hv : VR (fragE w F) v vc) (hk : x.kind = 4) (R : Res V)
    (HC : ∀ (E : List (Option Nat)) (wx : World), (∀ k, some k ∈ E → k < wx.heap.size) → Below w.heap.size w wx → FLe (fragE w F) (fragE wx E) → Calls Tryd.prog 35 #[.agg xc.toArray, .agg vc.toArray] wx (RetR er E wx R)) :
    Calls Tryd.prog 16 #[.agg xc.toArray, .agg vc.toArray] w (RetR er F w R) := by
  have HX := Lib.hid (fun (w2 : World) (g : Nat) (hB : Blk w2 g xc) => (hB.cell (o := 0) hx.k0 : w2.cell? ⟨g, 0, none⟩ = some (.int .i64 x.kind)))
  rw [hk] at HX
  have HLx := Lib.hid hx.shape.len; have HLv := Lib.hid hv.len
  have HCC := Lib.hid HC; have HF := Lib.hid hF
  clear hx hv hk HC hF
  go_enter Tryd.func16, Tryd.ntmps16
  go_wp2_with (first
    | (refine wpList_box_lay rfl 32 _ rfl _ rfl ?_; (intro w0 g0 hg0 hB0 hb0))
    | (refine wpList_box_lay rfl 27 _ rfl _ rfl ?_; (intro w1 g1 hg1 hB1 hb1; replace hB0 := hB0.below hb1 hB0.lt; replace hb0 := hb0.trans (hb1.mono hb0.size)))
    | (refine wpList_alloc_lay rfl 27 rfl zV zeroV ?_; (intro w2 g4 hg4 hB4 hb2; replace hB0 := hB0.below hb2 hB0.lt; replace hB1 := hB1.below hb2 hB1.lt; replace hg4 := Nat.le_trans hb0.size hg4; replace hb0 := hb0.trans (hb2.mono hb0.size); clear hb1 hb2; have q0 := HX.out _ _ hB0; have HFF : Hid (∀ k, some k ∈ some g4 :: F → k < w2.heap.size) := ff_of HF.out hb0 hB4.lt; have Hle : Hid (FLe (fragE w F) (fragE w2 (some g4 :: F))) := fle_of hb0 hg4; have Hb := Lib.hid hb0; have r0 := hB0.whole; have r1 := hB1.whole; clear hB0 hB1 hg0 hg1 hb0))
    | (refine wpList_load_seg rfl 32 _ rfl _ _ rfl _ _ r0 Tryd.underlying32 rfl ?_ ?_; (· exact infoE.trans (congrArg some HLx.out.symm)))
    | (refine wpList_load_seg rfl 27 _ rfl _ _ rfl _ _ r1 Tryd.underlying27 rfl ?_ ?_; (· exact infoV.trans (congrArg some HLv.out.symm)))
    | (go_at_call 35; (with_reducible refine (HCC.out (some g4 :: F) w2 HFF.out Hb.out Hle.out).mono ?_); rintro e w3 hR; obtain ⟨cs, ev, rfl, hcl, hc1, hbR, hfin⟩ := hR.carry; have Hcl := Lib.hid hcl; have Hc1 := Lib.hid hc1; have Hfin := Lib.hid hfin; have Hb3 : Hid (Below w.heap.size w w3) := Hb.out.trans (hbR.mono Hb.out.size); replace hB4 := hB4.below hbR hB4.lt; clear hR hcl hc1 hbR hfin r0 r1 q0)
    | (refine wpList_store_all rfl 27 _ _ rfl g4 cs rfl rfl zV hB4 ?_ ?_ ?_ ?_; (· exact infoV.trans (congrArg some Hcl.out.symm)); (· exact Hcl.out); (· exact Hc1.out); (intro w4 hB6 hgr6; have Hgr6 := Lib.hid hgr6; clear hgr6 hB4)))
  refine bodyPost_ret (v := .tuple #[.agg cs.toArray, ev]) (results2_blk rfl _ _ g4 cs ev rfl rfl hB6 _ Tryd.underlying27 rfl (infoV.trans (congrArg some Hcl.out.symm))) rfl ?_
  exact Hfin.out w w4 F (Below.grown Hb3.out Hgr6.out Hb3.out.size (fun _ e => by cases e; exact hg4)) (grownE Hgr6.out (.inr (by simp)) (fun k hk => .inl (List.mem_cons_of_mem _ hk)))

set_option maxRecDepth 100000 in
set_option maxHeartbeats 4000000 in
theorem do_same (er : Errs) (F : List (Option Nat)) (x : E) (v : V) (xc vc : List Value) (w : World) (hF : ∀ k, some k ∈ F → k < w.heap.size) (hx : ER (fragE w F) x xc) (hv : VR (fragE w F) v vc) (hk : x.kind = 0) :
    Calls Tryd.prog 16 #[.agg xc.toArray, .agg vc.toArray] w (RetR er F w (.ok v)) := by
  have HX := Lib.hid (fun (w2 : World) (g : Nat) (hB : Blk w2 g xc) => (hB.cell (o := 0) hx.k0 : w2.cell? ⟨g, 0, none⟩ = some (.int .i64 x.kind)))
  rw [hk] at HX
  have HLx := Lib.hid hx.shape.len; have HLv := Lib.hid hv.len; have H1v := Lib.hid hv.shape.one
  have HF := Lib.hid hF; have HV := Lib.hid hv
  clear hx hv hk hF
  go_enter Tryd.func16, Tryd.ntmps16
  go_wp2_with (first
    | (refine wpList_box_lay rfl 32 _ rfl _ rfl ?_; (intro w0 g0 hg0 hB0 hb0))
    | (refine wpList_box_lay rfl 27 _ rfl _ rfl ?_; (intro w1 g1 hg1 hB1 hb1; replace hB0 := hB0.below hb1 hB0.lt; replace hb0 := hb0.trans (hb1.mono hb0.size)))
    | (refine wpList_alloc_lay rfl 27 rfl zV zeroV ?_; (intro w2 g4 hg4 hB4 hb2; replace hB0 := hB0.below hb2 hB0.lt; replace hB1 := hB1.below hb2 hB1.lt; replace hg4 := Nat.le_trans hb0.size hg4; replace hb0 := hb0.trans (hb2.mono hb0.size); clear hb1 hb2; have q0 := HX.out _ _ hB0; have HFF : Hid (∀ k, some k ∈ some g4 :: F → k < w2.heap.size) := ff_of HF.out hb0 hB4.lt; have Hle : Hid (FLe (fragE w F) (fragE w2 (some g4 :: F))) := fle_of hb0 hg4; have Hb := Lib.hid hb0; have r0 := hB0.whole; have r1 := hB1.whole; clear hB0 hB1 hg0 hg1 hb0))
    | (refine wpList_load_seg rfl 32 _ rfl _ _ rfl _ _ r0 Tryd.underlying32 rfl ?_ ?_; (· exact infoE.trans (congrArg some HLx.out.symm)))
    | (refine wpList_load_seg rfl 27 _ rfl _ _ rfl _ _ r1 Tryd.underlying27 rfl ?_ ?_; (· exact infoV.trans (congrArg some HLv.out.symm)))
    | (refine wpList_store_all rfl 27 _ _ rfl g4 vc rfl rfl zV hB4 ?_ ?_ ?_ ?_; (· exact infoV.trans (congrArg some HLv.out.symm)); (· exact HLv.out); (· exact H1v.out); (intro w4 hB6 hgr6; have Hgr6 := Lib.hid hgr6; clear hgr6 hB4)))
  refine bodyPost_ret (v := .tuple #[.agg vc.toArray, .nilIface]) (results2_blk rfl _ _ g4 vc _ rfl rfl hB6 _ Tryd.underlying27 rfl (infoV.trans (congrArg some HLv.out.symm))) rfl ?_
  exact ⟨Below.grown Hb.out Hgr6.out Hb.out.size (fun _ e => by cases e; exact hg4), vc, rfl, HV.out.mono (Hle.out.trans (grownE Hgr6.out (.inr (by simp)) (fun k hk => .inl (List.mem_cons_of_mem _ hk))))⟩

theorem do_all (er : Errs) : ∀ N, DoAt er N
  | 0 => fun F e v ec vc w hF hs => absurd hs (by omega)
  | N + 1 => fun F x v xc vc w hF hs hr hv hm hb he hx hvv => by
    have ih := do_all er N
    have hsF : ∀ s ∈ x.fields, SizeOf.sizeOf s.2 < N := fun s h => by have := Val.esize_field (x := x) (m := s.1) (e := s.2) h; omega
    have hsS : ∀ s ∈ x.steps, SizeOf.sizeOf s.2.2.2 < N := fun s h => by have := Val.esize_step (x := x) (k := s.1) (c := s.2.1) (v := s.2.2.1) (e := s.2.2.2) h; omega
    have hsK : ∀ s ∈ x.keys, SizeOf.sizeOf s.2 < N := fun s h => by have := Val.esize_key (x := x) (k := s.1) (e := s.2) h; omega
    obtain ⟨k, o, n, f, r, ro, rn, s, ks⟩ := x
    rw [esz] at hb
    rw [esm] at hm
    obtain ⟨_, hp⟩ := Val.eright_parts hr
    rcases hp with rfl | ⟨rfl, h1, h2, h3⟩ | ⟨rfl, h1⟩ | ⟨rfl, h1⟩ | ⟨rfl, h1⟩
    · have e : ado (.mk 0 o n f r ro rn s ks) v = .ok v := by rw [ado]; simp
      rw [e]
      exact do_same er F _ v xc vc w hF hx hvv rfl
    · have e : ado (.mk 1 o n f r ro rn s ks) v = if cmp o v = 0 then .ok n else .bad 13 := by rw [ado]; simp
      rw [e]
      refine do_swap er F _ v xc vc w hF hx hvv rfl _ (fun E wx hE hb hle => ?_)
      exact aswap_any er E _ v xc vc wx (he.keep hb) (hx.mono hle) (hvv.mono hle)
    · have e : ado (.mk 2 o n f r ro rn s ks) v = if v.kind = 3 then Val.intoT f r ro rn v else .bad 13 := by rw [ado]; rfl
      rw [e]
      refine do_into er F _ v xc vc w hF hx hvv rfl _ (fun E wx hE hbw hle => ?_)
      by_cases hk : v.kind = 3
      · rw [if_pos hk]
        exact into_good er N ih E _ v xc vc wx hE hsF h1 hm.2.1 hv (by show vmx v + eszF f ≤ _; omega) (he.keep hbw) (hx.mono hle) (hvv.mono hle) hk
      · rw [if_neg hk]
        exact into_bad er E (.mk 2 o n f r ro rn s ks) v xc vc wx (he.keep hbw) (hvv.mono hle) hk
    · have e : ado (.mk 3 o n f r ro rn s ks) v = if v.kind = 4 ∨ v.kind = 0 then Val.rowT s v.list else .bad 13 := by
        rw [ado]
        simp only [show ¬ ((3 : Int) = 1) by decide, show ¬ ((3 : Int) = 2) by decide, if_true, if_false]
        by_cases hk : v.kind = 4 ∨ v.kind = 0
        · rw [if_pos hk, if_pos hk]; unfold Val.rowT; cases adoS s v.list [] <;> rfl
        · rw [if_neg hk, if_neg hk]
      rw [e]
      refine do_row er F _ v xc vc w hF hx hvv rfl _ (fun E wx hE hbw hle => ?_)
      by_cases hk : v.kind = 4 ∨ v.kind = 0
      · rw [if_pos hk]
        exact row_good er N ih E _ v xc vc wx hE hsS h1 hm.2.2.1 (Val.rightL_mem.1 (Val.right_list hv hk).2) (by show vmx v + eszS s ≤ _; omega) (he.keep hbw) (hx.mono hle) (hvv.mono hle) hk
      · rw [if_neg hk]
        exact row_bad er E (.mk 2 o n f r ro rn s ks) v xc vc wx (he.keep hbw) (hvv.mono hle) hk
    · have e : ado (.mk 4 o n f r ro rn s ks) v = if v.kind = 5 ∨ v.kind = 0 then adoK ks v else .bad 13 := by rw [ado]; rfl
      rw [e]
      refine do_book er F _ v xc vc w hF hx hvv rfl _ (fun E wx hE hbw hle => ?_)
      by_cases hk : v.kind = 5 ∨ v.kind = 0
      · rw [if_pos hk]
        exact book_good er N ih E _ v xc vc wx hE hsK h1 hm.2.2.2 hv (by show vmx v + eszK ks ≤ _; omega) (he.keep hbw) (hx.mono hle) (hvv.mono hle) hk
      · rw [if_neg hk]
        exact book_bad er E (.mk 2 o n f r ro rn s ks) v xc vc wx (he.keep hbw) (hvv.mono hle) hk

end Go.Proofs.YtkldcjlkeblggaaDoor
