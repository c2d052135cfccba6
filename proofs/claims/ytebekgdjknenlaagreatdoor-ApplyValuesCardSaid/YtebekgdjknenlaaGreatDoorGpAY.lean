/- apply.do, walked. apply.Value and Fits, walked. -/
import Derived.Test.YtebekgdjknenlaaGreatDoorDBook
set_option maxRecDepth 100000
set_option maxHeartbeats 4000000
set_option linter.unusedVariables false
set_option linter.unusedSimpArgs false
namespace Go.Proofs.YtebekgdjknenlaaGreatDoor
open Go.RowKit
open Val (V E cmp right eright esm esmF esmS esmK v0 Res ado adoF adoS adoK get find withV putV vmx vmxL esz eszF eszS eszK partB stepB allF allS allK mkL KI KP KeysOf headKind setRest)
theorem RetR.carry {er : Errs} {F : List (Option Nat)} {w w' : World} {r : Res V} {e : Ending} (h : RetR er F w r e w') : ∃ (cs : List Value) (ev : Value), e = .returned (.tuple #[.agg cs.toArray, ev]) ∧ cs.length = 7 ∧ (∀ u ∈ cs, u.oneCell' = true) ∧ Below w.heap.size w w' ∧
  ∀ (w0 w4 : World) (E' : List (Option Nat)), Below w0.heap.size w0 w4 → FLe (fragE w' F) (fragE w4 E') → RetR er E' w0 r e w4 := by
 obtain ⟨hb, h⟩ := h
 cases r with
 | bad b => exact ⟨zV, _, h, rfl, zV_one, hb, fun w0 w4 E' h1 h2 => ⟨h1, h⟩⟩
 | ok x =>
  obtain ⟨xc, h1, h2⟩ := h
  exact ⟨xc, _, h1, h2.len, h2.shape.one, hb, fun w0 w4 E' h3 h4 => ⟨h3, xc, h1, h2.mono h4⟩⟩
theorem ff_of {F : List (Option Nat)} {w w2 : World} {g4 : Nat} (HF : ∀ k, some k ∈ F → k < w.heap.size) (hb0 : Below w.heap.size w w2) (h4 : g4 < w2.heap.size) : ∀ k, some k ∈ some g4 :: F → k < w2.heap.size := fun k hk => by
 rcases List.mem_cons.1 hk with hk | hk
 ·cases hk; exact h4
 ·exact Nat.lt_of_lt_of_le (HF k hk) hb0.size
theorem fle_of {F : List (Option Nat)} {w w2 : World} {g4 : Nat} (hb0 : Below w.heap.size w w2) (hg4 : w.heap.size ≤ g4) : FLe (fragE w F) (fragE w2 (some g4 :: F)) := belowE hb0 (fun k hk => by
 rcases List.mem_cons.1 hk with hk | hk
 ·right; cases hk; exact hg4
 ·exact .inl hk)
theorem do_swap (er : Errs) (F : List (Option Nat)) (x : E) (v : V) (xc vc : List Value) (w : World) (hF : ∀ k, some k ∈ F → k < w.heap.size) (hx : ER (fragE w F) x xc) (hv : VR (fragE w F) v vc) (hk : x.kind = 1) (R : Res V)
  (HC : ∀ (E : List (Option Nat)) (wx : World), (∀ k, some k ∈ E → k < wx.heap.size) → Below w.heap.size w wx → FLe (fragE w F) (fragE wx E) → Calls Tryz.prog 38 #[.agg xc.toArray, .agg vc.toArray] wx (RetR er E wx R)) :
  Calls Tryz.prog 19 #[.agg xc.toArray, .agg vc.toArray] w (RetR er F w R) := by
 have HX := Yq (fun (w2 : World) (g : Nat) (hB : Blk w2 g xc) => (hB.cell (o := 0) hx.k0 : w2.cell? ⟨g, 0, none⟩ = some (.int .i64 x.kind)))
 rw [hk] at HX
 have HLx := Yq hx.shape.len; have HLv := Yq hv.len
 have HCC := Yq HC; have HF := Yq hF
 clear hx hv hk HC hF
 go_enter Tryz.func19, Tryz.ntmps19
 go_wp2_with (first
  | (refine wpList_box_lay rfl 32 _ rfl _ rfl ?_; (intro w0 g0 hg0 hB0 hb0))
  | (refine wpList_box_lay rfl 27 _ rfl _ rfl ?_; (intro w1 g1 hg1 hB1 hb1; replace hB0 := hB0.below hb1 hB0.lt; replace hb0 := hb0.trans (hb1.mono hb0.size)))
  | (refine wpList_alloc_lay rfl 27 rfl zV zeroV ?_; (intro w2 g4 hg4 hB4 hb2; replace hB0 := hB0.below hb2 hB0.lt; replace hB1 := hB1.below hb2 hB1.lt; replace hg4 := Nat.le_trans hb0.size hg4; replace hb0 := hb0.trans (hb2.mono hb0.size); clear hb1 hb2; have q0 := HX.out _ _ hB0; have HFF : Hid (∀ k, some k ∈ some g4 :: F → k < w2.heap.size) := ff_of HF.out hb0 hB4.lt; have Hle : Hid (FLe (fragE w F) (fragE w2 (some g4 :: F))) := fle_of hb0 hg4; have Hb := Yq hb0; have r0 := hB0.whole; have r1 := hB1.whole; clear hB0 hB1 hg0 hg1 hb0))
  | (refine wpList_load_seg rfl 32 _ rfl _ _ rfl _ _ r0 Tryz.underlying32 rfl (iC infoE HLx) ?_)
  | (refine wpList_load_seg rfl 27 _ rfl _ _ rfl _ _ r1 Tryz.underlying27 rfl (iC infoV HLv) ?_)
  | (go_at_call 38; (with_reducible refine (HCC.out (some g4 :: F) w2 HFF.out Hb.out Hle.out).mono ?_); rintro e w3 hR; obtain ⟨cs, ev, rfl, hcl, hc1, hbR, hfin⟩ := hR.carry; have Hcl := Yq hcl; have Hc1 := Yq hc1; have Hfin := Yq hfin; have Hb3 : Hid (Below w.heap.size w w3) := Hb.out.trans (hbR.mono Hb.out.size); replace hB4 := hB4.below hbR hB4.lt; clear hR hcl hc1 hbR hfin r0 r1 q0)
  | (refine wpList_store_all rfl 27 _ _ rfl g4 cs rfl rfl zV hB4 ?_ ?_ ?_ ?_; (· exact iC infoV Hcl); (· exact Hcl.out); (· exact Hc1.out); (intro w4 hB6 hgr6; have Hgr6 := Yq hgr6; clear hgr6 hB4)))
 refine bodyPost_ret (v := .tuple #[.agg cs.toArray, ev]) (results2_blk rfl _ _ g4 cs ev rfl rfl hB6 _ Tryz.underlying27 rfl (iC infoV Hcl)) rfl ?_
 exact Hfin.out w w4 F (Below.grown Hb3.out Hgr6.out Hb3.out.size (fun _ e => by cases e; exact hg4)) (grownE Hgr6.out (.inr (by simp)) (fun k hk => .inl (List.mem_cons_of_mem _ hk)))
theorem do_into (er : Errs) (F : List (Option Nat)) (x : E) (v : V) (xc vc : List Value) (w : World) (hF : ∀ k, some k ∈ F → k < w.heap.size) (hx : ER (fragE w F) x xc) (hv : VR (fragE w F) v vc) (hk : x.kind = 2) (R : Res V)
  (HC : ∀ (E : List (Option Nat)) (wx : World), (∀ k, some k ∈ E → k < wx.heap.size) → Below w.heap.size w wx → FLe (fragE w F) (fragE wx E) → Calls Tryz.prog 39 #[.agg xc.toArray, .agg vc.toArray] wx (RetR er E wx R)) :
  Calls Tryz.prog 19 #[.agg xc.toArray, .agg vc.toArray] w (RetR er F w R) := by
 have HX := Yq (fun (w2 : World) (g : Nat) (hB : Blk w2 g xc) => (hB.cell (o := 0) hx.k0 : w2.cell? ⟨g, 0, none⟩ = some (.int .i64 x.kind)))
 rw [hk] at HX
 have HLx := Yq hx.shape.len; have HLv := Yq hv.len
 have HCC := Yq HC; have HF := Yq hF
 clear hx hv hk HC hF
 go_enter Tryz.func19, Tryz.ntmps19
 go_wp2_with (first
  | (refine wpList_box_lay rfl 32 _ rfl _ rfl ?_; (intro w0 g0 hg0 hB0 hb0))
  | (refine wpList_box_lay rfl 27 _ rfl _ rfl ?_; (intro w1 g1 hg1 hB1 hb1; replace hB0 := hB0.below hb1 hB0.lt; replace hb0 := hb0.trans (hb1.mono hb0.size)))
  | (refine wpList_alloc_lay rfl 27 rfl zV zeroV ?_; (intro w2 g4 hg4 hB4 hb2; replace hB0 := hB0.below hb2 hB0.lt; replace hB1 := hB1.below hb2 hB1.lt; replace hg4 := Nat.le_trans hb0.size hg4; replace hb0 := hb0.trans (hb2.mono hb0.size); clear hb1 hb2; have q0 := HX.out _ _ hB0; have HFF : Hid (∀ k, some k ∈ some g4 :: F → k < w2.heap.size) := ff_of HF.out hb0 hB4.lt; have Hle : Hid (FLe (fragE w F) (fragE w2 (some g4 :: F))) := fle_of hb0 hg4; have Hb := Yq hb0; have r0 := hB0.whole; have r1 := hB1.whole; clear hB0 hB1 hg0 hg1 hb0))
  | (refine wpList_load_seg rfl 32 _ rfl _ _ rfl _ _ r0 Tryz.underlying32 rfl (iC infoE HLx) ?_)
  | (refine wpList_load_seg rfl 27 _ rfl _ _ rfl _ _ r1 Tryz.underlying27 rfl (iC infoV HLv) ?_)
  | (go_at_call 39; (with_reducible refine (HCC.out (some g4 :: F) w2 HFF.out Hb.out Hle.out).mono ?_); rintro e w3 hR; obtain ⟨cs, ev, rfl, hcl, hc1, hbR, hfin⟩ := hR.carry; have Hcl := Yq hcl; have Hc1 := Yq hc1; have Hfin := Yq hfin; have Hb3 : Hid (Below w.heap.size w w3) := Hb.out.trans (hbR.mono Hb.out.size); replace hB4 := hB4.below hbR hB4.lt; clear hR hcl hc1 hbR hfin r0 r1 q0)
  | (refine wpList_store_all rfl 27 _ _ rfl g4 cs rfl rfl zV hB4 ?_ ?_ ?_ ?_; (· exact iC infoV Hcl); (· exact Hcl.out); (· exact Hc1.out); (intro w4 hB6 hgr6; have Hgr6 := Yq hgr6; clear hgr6 hB4)))
 refine bodyPost_ret (v := .tuple #[.agg cs.toArray, ev]) (results2_blk rfl _ _ g4 cs ev rfl rfl hB6 _ Tryz.underlying27 rfl (iC infoV Hcl)) rfl ?_
 exact Hfin.out w w4 F (Below.grown Hb3.out Hgr6.out Hb3.out.size (fun _ e => by cases e; exact hg4)) (grownE Hgr6.out (.inr (by simp)) (fun k hk => .inl (List.mem_cons_of_mem _ hk)))
theorem do_row (er : Errs) (F : List (Option Nat)) (x : E) (v : V) (xc vc : List Value) (w : World) (hF : ∀ k, some k ∈ F → k < w.heap.size) (hx : ER (fragE w F) x xc) (hv : VR (fragE w F) v vc) (hk : x.kind = 3) (R : Res V)
  (HC : ∀ (E : List (Option Nat)) (wx : World), (∀ k, some k ∈ E → k < wx.heap.size) → Below w.heap.size w wx → FLe (fragE w F) (fragE wx E) → Calls Tryz.prog 40 #[.agg xc.toArray, .agg vc.toArray] wx (RetR er E wx R)) :
  Calls Tryz.prog 19 #[.agg xc.toArray, .agg vc.toArray] w (RetR er F w R) := by
 have HX := Yq (fun (w2 : World) (g : Nat) (hB : Blk w2 g xc) => (hB.cell (o := 0) hx.k0 : w2.cell? ⟨g, 0, none⟩ = some (.int .i64 x.kind)))
 rw [hk] at HX
 have HLx := Yq hx.shape.len; have HLv := Yq hv.len
 have HCC := Yq HC; have HF := Yq hF
 clear hx hv hk HC hF
 go_enter Tryz.func19, Tryz.ntmps19
 go_wp2_with (first
  | (refine wpList_box_lay rfl 32 _ rfl _ rfl ?_; (intro w0 g0 hg0 hB0 hb0))
  | (refine wpList_box_lay rfl 27 _ rfl _ rfl ?_; (intro w1 g1 hg1 hB1 hb1; replace hB0 := hB0.below hb1 hB0.lt; replace hb0 := hb0.trans (hb1.mono hb0.size)))
  | (refine wpList_alloc_lay rfl 27 rfl zV zeroV ?_; (intro w2 g4 hg4 hB4 hb2; replace hB0 := hB0.below hb2 hB0.lt; replace hB1 := hB1.below hb2 hB1.lt; replace hg4 := Nat.le_trans hb0.size hg4; replace hb0 := hb0.trans (hb2.mono hb0.size); clear hb1 hb2; have q0 := HX.out _ _ hB0; have HFF : Hid (∀ k, some k ∈ some g4 :: F → k < w2.heap.size) := ff_of HF.out hb0 hB4.lt; have Hle : Hid (FLe (fragE w F) (fragE w2 (some g4 :: F))) := fle_of hb0 hg4; have Hb := Yq hb0; have r0 := hB0.whole; have r1 := hB1.whole; clear hB0 hB1 hg0 hg1 hb0))
  | (refine wpList_load_seg rfl 32 _ rfl _ _ rfl _ _ r0 Tryz.underlying32 rfl (iC infoE HLx) ?_)
  | (refine wpList_load_seg rfl 27 _ rfl _ _ rfl _ _ r1 Tryz.underlying27 rfl (iC infoV HLv) ?_)
  | (go_at_call 40; (with_reducible refine (HCC.out (some g4 :: F) w2 HFF.out Hb.out Hle.out).mono ?_); rintro e w3 hR; obtain ⟨cs, ev, rfl, hcl, hc1, hbR, hfin⟩ := hR.carry; have Hcl := Yq hcl; have Hc1 := Yq hc1; have Hfin := Yq hfin; have Hb3 : Hid (Below w.heap.size w w3) := Hb.out.trans (hbR.mono Hb.out.size); replace hB4 := hB4.below hbR hB4.lt; clear hR hcl hc1 hbR hfin r0 r1 q0)
  | (refine wpList_store_all rfl 27 _ _ rfl g4 cs rfl rfl zV hB4 ?_ ?_ ?_ ?_; (· exact iC infoV Hcl); (· exact Hcl.out); (· exact Hc1.out); (intro w4 hB6 hgr6; have Hgr6 := Yq hgr6; clear hgr6 hB4)))
 refine bodyPost_ret (v := .tuple #[.agg cs.toArray, ev]) (results2_blk rfl _ _ g4 cs ev rfl rfl hB6 _ Tryz.underlying27 rfl (iC infoV Hcl)) rfl ?_
 exact Hfin.out w w4 F (Below.grown Hb3.out Hgr6.out Hb3.out.size (fun _ e => by cases e; exact hg4)) (grownE Hgr6.out (.inr (by simp)) (fun k hk => .inl (List.mem_cons_of_mem _ hk)))
theorem do_book (er : Errs) (F : List (Option Nat)) (x : E) (v : V) (xc vc : List Value) (w : World) (hF : ∀ k, some k ∈ F → k < w.heap.size) (hx : ER (fragE w F) x xc) (hv : VR (fragE w F) v vc) (hk : x.kind = 4) (R : Res V)
  (HC : ∀ (E : List (Option Nat)) (wx : World), (∀ k, some k ∈ E → k < wx.heap.size) → Below w.heap.size w wx → FLe (fragE w F) (fragE wx E) → Calls Tryz.prog 41 #[.agg xc.toArray, .agg vc.toArray] wx (RetR er E wx R)) :
  Calls Tryz.prog 19 #[.agg xc.toArray, .agg vc.toArray] w (RetR er F w R) := by
 have HX := Yq (fun (w2 : World) (g : Nat) (hB : Blk w2 g xc) => (hB.cell (o := 0) hx.k0 : w2.cell? ⟨g, 0, none⟩ = some (.int .i64 x.kind)))
 rw [hk] at HX
 have HLx := Yq hx.shape.len; have HLv := Yq hv.len
 have HCC := Yq HC; have HF := Yq hF
 clear hx hv hk HC hF
 go_enter Tryz.func19, Tryz.ntmps19
 go_wp2_with (first
  | (refine wpList_box_lay rfl 32 _ rfl _ rfl ?_; (intro w0 g0 hg0 hB0 hb0))
  | (refine wpList_box_lay rfl 27 _ rfl _ rfl ?_; (intro w1 g1 hg1 hB1 hb1; replace hB0 := hB0.below hb1 hB0.lt; replace hb0 := hb0.trans (hb1.mono hb0.size)))
  | (refine wpList_alloc_lay rfl 27 rfl zV zeroV ?_; (intro w2 g4 hg4 hB4 hb2; replace hB0 := hB0.below hb2 hB0.lt; replace hB1 := hB1.below hb2 hB1.lt; replace hg4 := Nat.le_trans hb0.size hg4; replace hb0 := hb0.trans (hb2.mono hb0.size); clear hb1 hb2; have q0 := HX.out _ _ hB0; have HFF : Hid (∀ k, some k ∈ some g4 :: F → k < w2.heap.size) := ff_of HF.out hb0 hB4.lt; have Hle : Hid (FLe (fragE w F) (fragE w2 (some g4 :: F))) := fle_of hb0 hg4; have Hb := Yq hb0; have r0 := hB0.whole; have r1 := hB1.whole; clear hB0 hB1 hg0 hg1 hb0))
  | (refine wpList_load_seg rfl 32 _ rfl _ _ rfl _ _ r0 Tryz.underlying32 rfl (iC infoE HLx) ?_)
  | (refine wpList_load_seg rfl 27 _ rfl _ _ rfl _ _ r1 Tryz.underlying27 rfl (iC infoV HLv) ?_)
  | (go_at_call 41; (with_reducible refine (HCC.out (some g4 :: F) w2 HFF.out Hb.out Hle.out).mono ?_); rintro e w3 hR; obtain ⟨cs, ev, rfl, hcl, hc1, hbR, hfin⟩ := hR.carry; have Hcl := Yq hcl; have Hc1 := Yq hc1; have Hfin := Yq hfin; have Hb3 : Hid (Below w.heap.size w w3) := Hb.out.trans (hbR.mono Hb.out.size); replace hB4 := hB4.below hbR hB4.lt; clear hR hcl hc1 hbR hfin r0 r1 q0)
  | (refine wpList_store_all rfl 27 _ _ rfl g4 cs rfl rfl zV hB4 ?_ ?_ ?_ ?_; (· exact iC infoV Hcl); (· exact Hcl.out); (· exact Hc1.out); (intro w4 hB6 hgr6; have Hgr6 := Yq hgr6; clear hgr6 hB4)))
 refine bodyPost_ret (v := .tuple #[.agg cs.toArray, ev]) (results2_blk rfl _ _ g4 cs ev rfl rfl hB6 _ Tryz.underlying27 rfl (iC infoV Hcl)) rfl ?_
 exact Hfin.out w w4 F (Below.grown Hb3.out Hgr6.out Hb3.out.size (fun _ e => by cases e; exact hg4)) (grownE Hgr6.out (.inr (by simp)) (fun k hk => .inl (List.mem_cons_of_mem _ hk)))
theorem do_same (er : Errs) (F : List (Option Nat)) (x : E) (v : V) (xc vc : List Value) (w : World) (hF : ∀ k, some k ∈ F → k < w.heap.size) (hx : ER (fragE w F) x xc) (hv : VR (fragE w F) v vc) (hk : x.kind = 0) :
  Calls Tryz.prog 19 #[.agg xc.toArray, .agg vc.toArray] w (RetR er F w (.ok v)) := by
 have HX := Yq (fun (w2 : World) (g : Nat) (hB : Blk w2 g xc) => (hB.cell (o := 0) hx.k0 : w2.cell? ⟨g, 0, none⟩ = some (.int .i64 x.kind)))
 rw [hk] at HX
 have HLx := Yq hx.shape.len; have HLv := Yq hv.len; have H1v := Yq hv.shape.one
 have HF := Yq hF; have HV := Yq hv
 clear hx hv hk hF
 go_enter Tryz.func19, Tryz.ntmps19
 go_wp2_with (first
  | (refine wpList_box_lay rfl 32 _ rfl _ rfl ?_; (intro w0 g0 hg0 hB0 hb0))
  | (refine wpList_box_lay rfl 27 _ rfl _ rfl ?_; (intro w1 g1 hg1 hB1 hb1; replace hB0 := hB0.below hb1 hB0.lt; replace hb0 := hb0.trans (hb1.mono hb0.size)))
  | (refine wpList_alloc_lay rfl 27 rfl zV zeroV ?_; (intro w2 g4 hg4 hB4 hb2; replace hB0 := hB0.below hb2 hB0.lt; replace hB1 := hB1.below hb2 hB1.lt; replace hg4 := Nat.le_trans hb0.size hg4; replace hb0 := hb0.trans (hb2.mono hb0.size); clear hb1 hb2; have q0 := HX.out _ _ hB0; have HFF : Hid (∀ k, some k ∈ some g4 :: F → k < w2.heap.size) := ff_of HF.out hb0 hB4.lt; have Hle : Hid (FLe (fragE w F) (fragE w2 (some g4 :: F))) := fle_of hb0 hg4; have Hb := Yq hb0; have r0 := hB0.whole; have r1 := hB1.whole; clear hB0 hB1 hg0 hg1 hb0))
  | (refine wpList_load_seg rfl 32 _ rfl _ _ rfl _ _ r0 Tryz.underlying32 rfl (iC infoE HLx) ?_)
  | (refine wpList_load_seg rfl 27 _ rfl _ _ rfl _ _ r1 Tryz.underlying27 rfl (iC infoV HLv) ?_)
  | (refine wpList_store_all rfl 27 _ _ rfl g4 vc rfl rfl zV hB4 ?_ ?_ ?_ ?_; (· exact iC infoV HLv); (· exact HLv.out); (· exact H1v.out); (intro w4 hB6 hgr6; have Hgr6 := Yq hgr6; clear hgr6 hB4)))
 refine bodyPost_ret (v := .tuple #[.agg vc.toArray, .nilIface]) (results2_blk rfl _ _ g4 vc _ rfl rfl hB6 _ Tryz.underlying27 rfl (iC infoV HLv)) rfl ?_
 exact ⟨Below.grown Hb.out Hgr6.out Hb.out.size (fun _ e => by cases e; exact hg4), vc, rfl, HV.out.mono (Hle.out.trans (grownE Hgr6.out (.inr (by simp)) (fun k hk => .inl (List.mem_cons_of_mem _ hk))))⟩
theorem do_all (er : Errs) : ∀ N, DoAt er N
 | 0 => fun F e v ec vc w hF hs => absurd hs (by omega)
 | N + 1 => fun F x v xc vc w hF hs hr hv hm hb he hx hvv => by
  have ih := do_all er N
  have hsF : ∀ s ∈ x.fields, SizeOf.sizeOf s.2 < N := fun s h => by have := Val.esize_field (x := x) (m := s.1) (e := s.2) h; omega
  have hsS : ∀ s ∈ x.steps, SizeOf.sizeOf s.2.2.2 < N := fun s h => by have := Val.esize_step (x := x) (k := s.1) (c := s.2.1) (v := s.2.2.1) (e := s.2.2.2) h; omega
  have hsK : ∀ s ∈ x.keys, SizeOf.sizeOf s.2 < N := fun s h => by have := Val.esize_key (x := x) (k := s.1) (e := s.2) h; omega
  obtain ⟨k, o, n, f, r, ro, rn, s, ks⟩ := x
  rw [esz] at hb
  rw [esm] at hm
  obtain ⟨_, hp⟩ := Val.eright_parts hr
  rcases hp with rfl | ⟨rfl, h1, h2, h3⟩ | ⟨rfl, h1⟩ | ⟨rfl, h1⟩ | ⟨rfl, h1⟩
  ·have e : ado (.mk 0 o n f r ro rn s ks) v = .ok v := by rw [ado]; simp
   rw [e]
   exact do_same er F _ v xc vc w hF hx hvv rfl
  ·have e : ado (.mk 1 o n f r ro rn s ks) v = if cmp o v = 0 then .ok n else .bad 13 := by rw [ado]; simp
   rw [e]
   refine do_swap er F _ v xc vc w hF hx hvv rfl _ (fun E wx hE hb hle => ?_)
   exact aswap_any er E _ v xc vc wx (he.keep hb) (hx.mono hle) (hvv.mono hle)
  ·have e : ado (.mk 2 o n f r ro rn s ks) v = if v.kind = 3 then Val.intoT f r ro rn v else .bad 13 := by rw [ado]; rfl
   rw [e]
   refine do_into er F _ v xc vc w hF hx hvv rfl _ (fun E wx hE hbw hle => ?_)
   by_cases hk : v.kind = 3
   ·rw [if_pos hk]
    exact into_good er N ih E _ v xc vc wx hE hsF h1 hm.2.1 hv (by show vmx v + eszF f ≤ _; omega) (he.keep hbw) (hx.mono hle) (hvv.mono hle) hk
   ·rw [if_neg hk]
    exact into_bad er E (.mk 2 o n f r ro rn s ks) v xc vc wx (he.keep hbw) (hvv.mono hle) hk
  ·have e : ado (.mk 3 o n f r ro rn s ks) v = if v.kind = 4 ∨ v.kind = 0 then Val.rowT s v.list else .bad 13 := by
    rw [ado]
    simp only [show ¬ ((3 : Int) = 1) by decide, show ¬ ((3 : Int) = 2) by decide, if_true, if_false]
    by_cases hk : v.kind = 4 ∨ v.kind = 0
    ·rw [if_pos hk, if_pos hk]; unfold Val.rowT; cases adoS s v.list [] <;> rfl
    ·rw [if_neg hk, if_neg hk]
   rw [e]
   refine do_row er F _ v xc vc w hF hx hvv rfl _ (fun E wx hE hbw hle => ?_)
   by_cases hk : v.kind = 4 ∨ v.kind = 0
   ·rw [if_pos hk]
    exact row_good er N ih E _ v xc vc wx hE hsS h1 hm.2.2.1 (Val.rightL_mem.1 (Val.right_list hv hk).2) (by show vmx v + eszS s ≤ _; omega) (he.keep hbw) (hx.mono hle) (hvv.mono hle) hk
   ·rw [if_neg hk]
    exact row_bad er E (.mk 2 o n f r ro rn s ks) v xc vc wx (he.keep hbw) (hvv.mono hle) hk
  ·have e : ado (.mk 4 o n f r ro rn s ks) v = if v.kind = 5 ∨ v.kind = 0 then adoK ks v else .bad 13 := by rw [ado]; rfl
   rw [e]
   refine do_book er F _ v xc vc w hF hx hvv rfl _ (fun E wx hE hbw hle => ?_)
   by_cases hk : v.kind = 5 ∨ v.kind = 0
   ·rw [if_pos hk]
    exact book_good er N ih E _ v xc vc wx hE hsK h1 hm.2.2.2 hv (by show vmx v + eszK ks ≤ _; omega) (he.keep hbw) (hx.mono hle) (hvv.mono hle) hk
   ·rw [if_neg hk]
    exact book_bad er E (.mk 2 o n f r ro rn s ks) v xc vc wx (he.keep hbw) (hvv.mono hle) hk
def Val.avalue (e : E) (v : V) : Res V := if eright e = true ∧ right v = true then ado e v else .bad 9
theorem value_any (er : Errs) (F : List (Option Nat)) (x : E) (v : V) (xc vc : List Value) (w : World) (hF : ∀ k, some k ∈ F → k < w.heap.size) (hm : esm x) (hb : vmx v + esz x ≤ 90000) (he : ErrsAt er w) (hx : ER (fragE w F) x xc) (hv : VR (fragE w F) v vc) :
  Calls Tryz.prog 8 #[.agg xc.toArray, .agg vc.toArray] w (RetR er F w (Val.avalue x v)) := by
 have HR1 := Yq (fun (wx : World) (hb : Below w.heap.size w wx) => eright_any x xc wx hm ((hx.mono (fragE_le _ _)).mono (below_le hb)))
 have HR2 := Yq (fun (wx : World) (hb : Below w.heap.size w wx) => right_any v vc wx ((hv.mono (fragE_le _ _)).mono (below_le hb)))
 have HE := Yq (fun (wx : World) (hb : Below w.heap.size w wx) => (he.keep hb).f)
 have Hlt := Yq (World.block_lt_of_cell? w _ he.f)
 have HLx := Yq hx.shape.len; have HLv := Yq hv.len
 have HF := Yq hF
 by_cases hr : eright x = true ∧ right v = true
 ·have HC : Hid (∀ (E : List (Option Nat)) (wx : World), (∀ k, some k ∈ E → k < wx.heap.size) → Below w.heap.size w wx → FLe (fragE w F) (fragE wx E) → Calls Tryz.prog 19 #[.agg xc.toArray, .agg vc.toArray] wx (RetR er E wx (ado x v))) := fun E wx hE hbw hle =>
   do_all er _ E x v xc vc wx hE (Nat.lt_succ_self _) hr.1 hr.2 hm hb (he.keep hbw) (hx.mono hle) (hv.mono hle)
  have HK : Hid (Val.avalue x v = ado x v) := if_pos hr
  rw [hr.1] at HR1
  rw [hr.2] at HR2
  clear hx hv hF he hm hb hr
  rw [HK.out]
  generalize ado x v = R at *
  go_enter Tryz.func8, Tryz.ntmps8
  go_wp2_with (first
   | (refine wpList_box_lay rfl 32 _ rfl _ rfl ?_; (intro w0 g0 hg0 hB0 hb0))
   | (refine wpList_box_lay rfl 27 _ rfl _ rfl ?_; (intro w1 g1 hg1 hB1 hb1; replace hB0 := hB0.below hb1 hB0.lt; replace hb0 := hb0.trans (hb1.mono hb0.size)))
   | (refine wpList_alloc_lay rfl 27 rfl zV zeroV ?_; (intro w2 g4 hg4 hB4 hb2; replace hB0 := hB0.below hb2 hB0.lt; replace hB1 := hB1.below hb2 hB1.lt; replace hg4 := Nat.le_trans hb0.size hg4; replace hb0 := hb0.trans (hb2.mono hb0.size); clear hb1 hb2;  have HFF : Hid (∀ k, some k ∈ some g4 :: F → k < w2.heap.size) := ff_of HF.out hb0 hB4.lt; have Hle : Hid (FLe (fragE w F) (fragE w2 (some g4 :: F))) := fle_of hb0 hg4; have HR0 : Hid (g0 < w2.heap.size ∧ g1 < w2.heap.size) := ⟨hB0.lt, hB1.lt⟩; have Hb := Yq hb0; have r0 := hB0.whole; have r1 := hB1.whole; clear hB0 hB1 hg0 hg1 hb0))
   | (refine wpList_load_seg rfl 32 _ rfl _ _ rfl _ _ r0 Tryz.underlying32 rfl (iC infoE HLx) ?_)
   | (refine wpList_load_seg rfl 27 _ rfl _ _ rfl _ _ r1 Tryz.underlying27 rfl (iC infoV HLv) ?_)
   | (go_at_call 17; (with_reducible refine (HR1.out _ Hb.out).mono ?_); rintro e w5 ⟨rfl, hb5⟩; have Hb5 : Hid (Below w.heap.size w w5) := Hb.out.trans (hb5.mono Hb.out.size); have hb25 : Below w2.heap.size w2 w5 := hb5; replace hB4 := hB4.below hb5 hB4.lt; replace r0 := range_below r0 hb5 HR0.out.1; replace r1 := range_below r1 hb5 HR0.out.2; clear hb5)
   | (go_at_call 18; (with_reducible refine (HR2.out _ Hb5.out).mono ?_); rintro e w6 ⟨rfl, hb6⟩; have Hb6 : Hid (Below w.heap.size w w6) := Hb5.out.trans (hb6.mono Hb5.out.size); have Hb26 : Hid (Below w2.heap.size w2 w6) := hb25.trans (hb6.mono hb25.size); replace hB4 := hB4.below hb6 hB4.lt; replace r0 := range_below r0 hb6 (Nat.lt_of_lt_of_le HR0.out.1 hb25.size); replace r1 := range_below r1 hb6 (Nat.lt_of_lt_of_le HR0.out.2 hb25.size); clear hb6 hb25)
   | (go_at_call 19; (with_reducible refine (HC.out (some g4 :: F) w6 (fun k hk => Nat.lt_of_lt_of_le (HFF.out k hk) Hb26.out.size) Hb6.out (Hle.out.trans (belowE Hb26.out (fun _ h => .inl h)))).mono ?_); rintro e w3 hR; obtain ⟨cs, ev, rfl, hcl, hc1, hbR, hfin⟩ := hR.carry; have Hcl := Yq hcl; have Hc1 := Yq hc1; have Hfin := Yq hfin; have Hb3 : Hid (Below w.heap.size w w3) := Hb6.out.trans (hbR.mono Hb6.out.size); replace hB4 := hB4.below hbR hB4.lt; clear hR hcl hc1 hbR hfin r0 r1)
   | (refine wpList_store_all rfl 27 _ _ rfl g4 cs rfl rfl zV hB4 ?_ ?_ ?_ ?_; (· exact iC infoV Hcl); (· exact Hcl.out); (· exact Hc1.out); (intro w4 hB6 hgr6; have Hgr6 := Yq hgr6; clear hgr6 hB4)))
  refine bodyPost_ret (v := .tuple #[.agg cs.toArray, ev]) (results2_blk rfl _ _ g4 cs ev rfl rfl hB6 _ Tryz.underlying27 rfl (iC infoV Hcl)) rfl ?_
  exact Hfin.out w w4 F (Below.grown Hb3.out Hgr6.out Hb3.out.size (fun _ e => by cases e; exact hg4)) (grownE Hgr6.out (.inr (by simp)) (fun k hk => .inl (List.mem_cons_of_mem _ hk)))
 ·have HK : Hid (Val.avalue x v = .bad 9) := if_neg hr
  have Hcase : (eright x = false) ∨ (eright x = true ∧ right v = false) := by
   cases h1 : eright x with
   | false => exact .inl rfl
   | true =>
    right
    refine ⟨rfl, ?_⟩
    cases h2 : right v with
    | false => rfl
    | true => exact absurd ⟨h1, h2⟩ hr
  clear hx hv hF he hm hb hr
  rw [HK.out]
  rcases Hcase with h1 | ⟨h1, h2⟩
  all_goals
   rw [h1] at HR1
   try rw [h2] at HR2
   clear h1
   try clear h2
   go_enter Tryz.func8, Tryz.ntmps8
   go_wp2_with (first
    | (refine wpList_box_lay rfl 32 _ rfl _ rfl ?_; (intro w0 g0 hg0 hB0 hb0))
    | (refine wpList_box_lay rfl 27 _ rfl _ rfl ?_; (intro w1 g1 hg1 hB1 hb1; replace hB0 := hB0.below hb1 hB0.lt; replace hb0 := hb0.trans (hb1.mono hb0.size)))
    | (refine wpList_alloc_lay rfl 27 rfl zV zeroV ?_; (intro w2 g4 hg4 hB4 hb2; replace hB0 := hB0.below hb2 hB0.lt; replace hB1 := hB1.below hb2 hB1.lt; replace hg4 := Nat.le_trans hb0.size hg4; replace hb0 := hb0.trans (hb2.mono hb0.size); clear hb1 hb2;  have HFF : Hid (∀ k, some k ∈ some g4 :: F → k < w2.heap.size) := ff_of HF.out hb0 hB4.lt; have Hle : Hid (FLe (fragE w F) (fragE w2 (some g4 :: F))) := fle_of hb0 hg4; have HR0 : Hid (g0 < w2.heap.size ∧ g1 < w2.heap.size) := ⟨hB0.lt, hB1.lt⟩; have Hb := Yq hb0; have r0 := hB0.whole; have r1 := hB1.whole; clear hB0 hB1 hg0 hg1 hb0))
    | (refine wpList_load_seg rfl 32 _ rfl _ _ rfl _ _ r0 Tryz.underlying32 rfl (iC infoE HLx) ?_)
    | (refine wpList_load_seg rfl 27 _ rfl _ _ rfl _ _ r1 Tryz.underlying27 rfl (iC infoV HLv) ?_)
    | (go_at_call 17; (with_reducible refine (HR1.out _ Hb.out).mono ?_); rintro e w5 ⟨rfl, hb5⟩; have Hb5 : Hid (Below w.heap.size w w5) := Hb.out.trans (hb5.mono Hb.out.size); have Hb25 := Yq hb5; replace hB4 := hB4.below hb5 hB4.lt; replace r0 := range_below r0 hb5 HR0.out.1; replace r1 := range_below r1 hb5 HR0.out.2; clear hb5)
    | (go_at_call 18; (with_reducible refine (HR2.out _ Hb5.out).mono ?_); rintro e w6 ⟨rfl, hb6⟩; have Hb6 : Hid (Below w.heap.size w w6) := Hb5.out.trans (hb6.mono Hb5.out.size); replace hB4 := hB4.below hb6 hB4.lt; replace Hb5 := Hb6; clear hb6 Hb6))
   have hE := HE.out _ Hb5.out
   have HB4 := Yq hB4
   obtain ⟨⟨z0, z1, z2, z3, z4, z5, z6⟩, f0, f1, f2, f3, f4, f5, f6⟩ := hB4.zero
   have n1 : ¬ g4 = 0 := fun e => absurd hg4 (by have := Hlt.out; omega)
   have n2 : ¬ 0 = g4 := fun e => n1 e.symm
   clear hB4 r0 r1
   go_region
   all_goals
    go_wp2_with fail
    refine bodyPost_ret (v := .tuple #[.agg zV.toArray, er.f]) (results2_blk rfl _ _ g4 zV _ rfl rfl ?_ _ Tryz.underlying27 rfl infoV) rfl ⟨?_, rfl⟩
    ·exact blk_zeroed HB4.out
    ·exact below_zeroed Hb5.out hg4
def Val.Res.isOk {α : Type} : Res α → Bool
 | .ok _ => true
 | .bad _ => false
theorem RV.tell {er : Errs} {r : Res V} {ev : Value} {cs : List Value} {F : Frag} (h : RV er r ev cs F) : (ev = .nilIface ∧ r.isOk = true) ∨ ∃ t v, ev = .iface t v ∧ r.isOk = false := by
 cases r with
 | bad b =>
  obtain ⟨t, v, h2⟩ := Errs.is er b
  exact .inr ⟨t, v, Eq.trans (show ev = er.of b from h) h2, rfl⟩
 | ok z => exact .inl ⟨h.1, rfl⟩
theorem fits_any (er : Errs) (F : List (Option Nat)) (x : E) (v : V) (xc vc : List Value) (w : World) (hF : ∀ k, some k ∈ F → k < w.heap.size) (hm : esm x) (hb : vmx v + esz x ≤ 90000) (he : ErrsAt er w) (hx : ER (fragE w F) x xc) (hv : VR (fragE w F) v vc) :
  Calls Tryz.prog 13 #[.agg xc.toArray, .agg vc.toArray] w fun e w' => e = .returned (.bool (Val.avalue x v).isOk) ∧ Below w.heap.size w w' := by
 have HC := Yq (fun (wx : World) (hbw : Below w.heap.size w wx) => value_any er F x v xc vc wx (fun k hk => Nat.lt_of_lt_of_le (hF k hk) hbw.size) hm hb (he.keep hbw) (hx.mono (belowE hbw (fun _ h => .inl h))) (hv.mono (belowE hbw (fun _ h => .inl h))))
 have HLx := Yq hx.shape.len; have HLv := Yq hv.len
 clear hx hv hF he hm hb
 generalize Val.avalue x v = R at *
 go_enter Tryz.func13, Tryz.ntmps13
 go_upto_region 2 with ((first
  | (refine wpList_box_lay rfl 32 _ rfl _ rfl ?_; (intro w0 g0 hg0 hB0 hb0))
  | (refine wpList_box_lay rfl 27 _ rfl _ rfl ?_; (intro w1 g1 hg1 hB1 hb1; replace hB0 := hB0.below hb1 hB0.lt; replace hb0 := hb0.trans (hb1.mono hb0.size); have r0 := hB0.whole; have r1 := hB1.whole; clear hB0 hB1 hb1))
  | (refine wpList_load_seg rfl 32 _ rfl _ _ rfl _ _ r0 Tryz.underlying32 rfl (iC infoE HLx) ?_)
  | (refine wpList_load_seg rfl 27 _ rfl _ _ rfl _ _ r1 Tryz.underlying27 rfl (iC infoV HLv) ?_)
  | (go_at_call 8; (with_reducible refine (HC.out _ hb0).mono ?_); rintro e w3 hR; obtain ⟨cs, ev, rfl, hcl, hc1, hbR, hV⟩ := RetR.form hR; have Hcl := Yq hcl; have Hc1 := Yq hc1; have HV := Yq hV; replace hb0 := hb0.trans (hbR.mono hb0.size); clear hR hcl hc1 hbR hV r0 r1)
  | (refine wpList_alloc_lay rfl 27 rfl zV zeroV ?_; (intro w2 g4 hg4 hB4 hb2; replace hg4 := Nat.le_trans hb0.size hg4; replace hb0 := hb0.trans (hb2.mono hb0.size); clear hb2))
  | (refine wpList_store_all rfl 27 _ _ rfl g4 cs rfl rfl zV hB4 ?_ ?_ ?_ ?_; (· exact iC infoV Hcl); (· exact Hcl.out); (· exact Hc1.out); (intro w4 hB6 hgr6; replace hb0 := Below.grown hb0 hgr6 hb0.size (fun _ e => by cases e; exact hg4); clear hgr6 hB4 hB6))))
 rcases HV.out.tell with ⟨h1, h2⟩ | ⟨et, ev', h1, h2⟩
 all_goals
  have H2 := Yq h2
  clear h2
  subst h1
  go_wp2_with fail
  go_ret
  exact ⟨ret_bool H2.out.symm, hb0⟩
end Go.Proofs.YtebekgdjknenlaaGreatDoor
