/- apply.into, walked. -/
import Derived.Test.YtebekgdjknenlaaGreatDoorGpAX
set_option maxRecDepth 100000
set_option maxHeartbeats 4000000
set_option linter.unusedVariables false
set_option linter.unusedSimpArgs false
namespace Go.Proofs.YtebekgdjknenlaaGreatDoor
open Go.RowKit
open Val (V E cmp right eright esm esmF esmK v0 Res ado adoF adoK get find withV putV vmx vmxL esz eszF eszK partB stepB allF allK mkL KI KP KeysOf headKind setRest)
theorem into_bad (er : Errs) (F : List (Option Nat)) (x : E) (v : V) (xc vc : List Value) (w : World) (he : ErrsAt er w) (hv : VR (fragE w F) v vc) (hk : ¬ v.kind = 3) :
  Calls Tryz.prog 39 #[.agg xc.toArray, .agg vc.toArray] w (RetR er F w (.bad 13)) := by
 have HE := Yq (fun (wx : World) (hb : Below w.heap.size w wx) => (he.keep hb).c)
 have Hlt := Yq (World.block_lt_of_cell? w _ he.c)
 have HV := Yq (fun (w2 : World) (g : Nat) (hB : Blk w2 g vc) => hB.cell hv.k0)
 have hd1 : decide (v.kind = 3) = false := decide_eq_false hk
 clear he hv
 generalize v.kind = kd at *
 go_enter Tryz.func39, Tryz.ntmps39
 go_wp2_with (first
  | (refine wpList_box_lay rfl 32 _ rfl _ rfl ?_; (intro w0 g0 hg0 hB0 hb0))
  | (refine wpList_box_lay rfl 27 _ rfl _ rfl ?_; (intro w1 g1 hg1 hB1 hb1; replace hb0 := hb0.trans (hb1.mono hb0.size)))
  | (refine wpList_alloc_lay rfl 27 rfl zV zeroV ?_; (intro w2 g2 hg2 hB2 hb2; replace hB1 := hB1.below hb2 hB1.lt; replace hg2 := Nat.le_trans hb0.size hg2; replace hb0 := hb0.trans (hb2.mono hb0.size); clear hb1 hb2; have q0 := HV.out _ _ hB1)))
 have hE := HE.out _ hb0
 obtain ⟨⟨z0, z1, z2, z3, z4, z5, z6⟩, f0, f1, f2, f3, f4, f5, f6⟩ := hB2.zero
 have n1 : ¬ g2 = 12 := fun e => absurd hg2 (by have := Hlt.out; omega)
 have n2 : ¬ 12 = g2 := fun e => n1 e.symm
 clear hg0 hg1
 go_region
 all_goals
  go_wp2_with fail
  refine bodyPost_ret (v := .tuple #[.agg zV.toArray, er.c]) (results2_blk rfl _ _ g2 zV _ rfl rfl ?_ _ Tryz.underlying27 rfl infoV) rfl ⟨?_, rfl⟩
  ·exact blk_zeroed hB2
  ·exact below_zeroed hb0 hg2
theorem into_good (er : Errs) (N : Nat) (ih : DoAt er N) (F : List (Option Nat)) (x : E) (v : V) (xc vc : List Value) (w : World) (hF : ∀ k, some k ∈ F → k < w.heap.size) (hs : ∀ s ∈ x.fields, SizeOf.sizeOf s.2 < N) (hst : allF x.fields) (hsm : esmF x.fields)
  (hvr : right v = true) (hbd : vmx v + eszF x.fields ≤ 90000) (he : ErrsAt er w) (hx : ER (fragE w F) x xc) (hv : VR (fragE w F) v vc) (hk : v.kind = 3) :
  Calls Tryz.prog 39 #[.agg xc.toArray, .agg vc.toArray] w (RetR er F w (Val.intoT x.fields x.rests x.ro x.rn v)) := by
 have HE := Yq (fun (wx : World) (hb : Below w.heap.size w wx) => (he.keep hb))
 have HG := Yq he.lt
 have HF := Yq hF
 have HI0 := Yq (IntoInv.start hvr hk hbd)
 have Hv := Yq hv
 obtain ⟨kd, o, nw, fs, r, ro, rn, s, ks⟩ := x
 simp only [Val.E.fields, Val.E.rests, Val.E.ro, Val.E.rn] at *
 rw [ER] at hx
 obtain ⟨oc, nc, fv, sv, kv, fe, se, ke, rfl, hsz, ⟨h3, h4⟩, ⟨h5, h6, h7⟩, h8, h9, h10⟩ := hx
 obtain ⟨a1, c1, rfl, hc1, hc2, hcn⟩ := h5.len
 obtain ⟨a2, c2, rfl, _⟩ := h6.len
 obtain ⟨a3, c3, rfl, _⟩ := h7.len
 have HSZ := Yq hsz.2
 have HA := Yq (fun (w2 : World) (g : Nat) (hB : Blk w2 g (.int .i64 kd :: (oc ++ (nc ++ [.slice a1 fe.length c1, .bool r, .string ro, .string rn, .slice a2 se.length c2, .slice a3 ke.length c3])))) => (EdAt.of h3.len h4.len hB))
 have HV := Yq (fun (w2 : World) (g : Nat) (hB : Blk w2 g vc) => (hB.cell (o := 0) hv.k0 : w2.cell? ⟨g, 0, none⟩ = some (.int .i64 v.kind)))
 rw [hk] at HV
 have H6 := Yq h5; have H9 := Yq h8
 have HS := Yq hs; have HST := Yq hst; have HM := Yq hsm
 have hlen := h8.len
 obtain ⟨ns, hn⟩ : ∃ ns, ns = fe.length := ⟨_, rfl⟩
 rw [← hn] at HA H6 hc1 hlen ⊢
 have Hn := Yq hn.symm; have Hm := Yq hlen.symm; clear hn hlen
 clear h3 h4 h5 h6 h7 h8 h9 h10 hs hst hsm hvr hbd he hF hsz hv hk
 have hns : ns ≤ 9223372036854775807 := by have := hc2; unfold maxLen at this; omega
 generalize hxc : (Value.int .i64 kd :: (oc ++ (nc ++ [.slice a1 ns c1, .bool r, .string ro, .string rn, .slice a2 se.length c2, .slice a3 ke.length c3]))) = xc at *
 clear hxc
 go_enter Tryz.func39, Tryz.ntmps39
 go_wp2_with (first
  | (refine wpList_box_lay rfl 32 _ rfl _ rfl ?_; (intro w0 g0 hg0 hB0 hb0))
  | (refine wpList_box_lay rfl 27 _ rfl _ rfl ?_; (intro w1 g1 hg1 hB1 hb1; have hz1 := hB0.lt; replace hB0 := hB0.below hb1 hB0.lt; replace hg1 := Nat.lt_of_lt_of_le hz1 hg1; replace hb0 := hb0.trans (hb1.mono hb0.size)))
  | (refine wpList_alloc_lay rfl 27 rfl zV zeroV ?_; (intro w2 g4 hg4 hB4 hb2; have hz4 := hB1.lt; replace hB0 := hB0.below hb2 hB0.lt; replace hB1 := hB1.below hb2 hB1.lt; replace hg4 := Nat.lt_of_lt_of_le hz4 hg4; replace hb0 := hb0.trans (hb2.mono hb0.size); clear hb1 hb2; have q0 := HV.out _ _ hB1; have q15 := (HA.out _ _ hB0).c15)))
 have Hg1 : Hid (w.heap.size ≤ g1 ∧ g0 < g1 ∧ g1 < g4) := ⟨Nat.le_trans hg0 (Nat.le_of_lt hg1), hg1, hg4⟩
 have HB0 := Yq hB0
 have Hb2 := Yq hb0
 have Hrow : Hid (VR (fragE w2 (some g1 :: some g4 :: F)) v vc ∧ Blk w2 g1 vc ∧ Blk w2 g4 zV) :=
  ⟨Hv.out.mono (belowE Hb2.out (fun k hk => by
   simp only [List.mem_cons] at hk
   rcases hk with hk | hk | hk
   ·right; cases hk; exact Hg1.out.1
   ·right; cases hk; have := Hg1.out; omega
   ·exact .inl hk)), hB1, hB4⟩
 clear hB0 hB1 hB4 q0 hg0 hg1 hg4 hz1 hz4 hb0
 go_wp2_with fail
 clear q15
 go_loopw [18] (fun i wr => ∃ (k : Nat) (y : V) (yc : List Value), k ≤ ns ∧ i = .int .i64 k ∧ Hid (IntoInv fs v k y) ∧ Hid (VR (fragE wr (some g1 :: some g4 :: F)) y yc ∧ Blk wr g1 yc ∧ Blk wr g4 zV) ∧ Hid (Below g1 w2 wr)) (fun i _ => ns - (intOf i).toNat)
 case atStart => exact ⟨0, v, vc, Nat.zero_le _, rfl, HI0, Hrow, Below.refl _ _⟩
 case round =>
  obtain ⟨k, y, yc, hkn, rfl, HI, HR, HB⟩ := hrel
  have Hbw : Hid (Below w.heap.size w wr) := Hb2.out.trans (HB.out.mono Hg1.out.1)
  by_cases hlt : k < ns
  ·have hks : k < fe.length := by rw [Hn.out]; exact hlt
   have hkf : k < fs.length := by rw [Hm.out]; exact hlt
   obtain ⟨b0, o0, hb0, hidx, hcell⟩ := FlatC.at (n := ns) (cap := c1) (a := a1) (H6.out.mono (fragE_le _ _)) (by decide) (i := k) hks Tryz.underlying28 sizeEF
   obtain ⟨exc, hx, rx⟩ := H9.out.at hkf hks
   have hr : wr.rangeAt b0 o0 fe[k] := range_below hcell Hbw.out hb0
   rw [hx] at hr
   have H30 := rx.shape.cons fs[k].1
   have HL30 := Yq H30.1
   have H1 := Yq H30.2
   have hgl : g1 < wr.heap.size := HR.out.2.1.lt
   have hwl : w.heap.size ≤ wr.heap.size := Hbw.out.size
   have HBs := Yq (fun (w2 : World) (g : Nat) (hB : Blk w2 g (.int .i64 fs[k].1 :: exc)) => And.intro (hB.cell (o := 0) (u := .int .i64 fs[k].1) rfl) (show w2.rangeAt g 1 exc from hB.range (p := [.int .i64 fs[k].1]) (q := exc) (r := []) (by simp) rfl))
   have HbadK := Yq (fun b (hR : ado fs[k].2 (get y fs[k].1) = .bad b) => HI.out.bad hkf hR r ro rn)
   have HokK := Yq (fun z (hR : ado fs[k].2 (get y fs[k].1) = .ok z) => HI.out.step hkf HST.out hR)
   have ha := HST.out _ (List.getElem_mem hkf)
   have HMo := Yq (Val.mono_fields HI.out.2.1 HI.out.2.2.1 ha.1)
   have HRg := Yq (And.intro (Val.right_get HI.out.2.1 HI.out.2.2.1 ha.1) (And.intro ha.2 (And.intro (HI.out.sizes hkf) (And.intro (HS.out _ (List.getElem_mem hkf)) (Val.esmF_at HM.out _ (List.getElem_mem hkf))))))
   have HX : Hid (ER (fragE w F) fs[k].2 exc) := rx
   clear hcell hx rx H30 ha
   have HLx := Yq HX.out.shape.len
   have HLy := Yq HR.out.1.len
   generalize fs[k].1 = num at *
   generalize fs[k].2 = ex at *
   go_wp2_with (first
    | (refine wpList_load_seg rfl 74 _ rfl _ _ rfl _ _ (by assumption) Tryz.underlying74 rfl (iC infoEF HL30) ?_)
    | (refine wpList_alloc_lay rfl 74 rfl (.int .i64 0 :: zE) zeroEF ?_; (intro w4 g7 hg7 hB7 hb4; clear hr))
    | (refine wpList_store_all rfl 74 _ _ rfl _ _ rfl rfl (.int .i64 0 :: zE) (by assumption) ?_ ?_ ?_ ?_; (· exact iC infoEF HL30); (· exact HL30.out); (· exact H1.out); (intro w5 hB9 hgr5; have hb5 := Below.grown hb4 hgr5 hb4.size (fun _ e => by cases e; exact hg7); obtain ⟨q0, q1⟩ := HBs.out w5 _ hB9; clear hb4 hgr5 hB7)))
   have Hb5 := Yq hb5
   have HB7 := Yq hB9
   have hg7l := hB9.lt
   have Hg7 : Hid (wr.heap.size ≤ g7) := hg7
   have hB1 := HR.out.2.1.below Hb5.out hgl
   have hB4 := HR.out.2.2.below Hb5.out HR.out.2.2.lt
   have q3 := hB1.whole
   have hg1l : g1 < w5.heap.size := Nat.lt_of_lt_of_le hgl Hb5.out.size
   have HBB := Yq (And.intro hB1 hB4)
   have Hbw5 : Hid (Below w.heap.size w w5) := Hbw.out.trans (Hb5.out.mono hwl)
   have HF5 : Hid (∀ k, some k ∈ some g1 :: some g4 :: F → k < w5.heap.size) := fun k hk => by
    simp only [List.mem_cons] at hk
    rcases hk with hk | hk | hk
    ·cases hk; exact hg1l
    ·cases hk; exact hB4.lt
    ·exact Nat.lt_of_lt_of_le (HF.out k hk) Hbw5.out.size
   have HV5 : Hid (VR (fragE w5 (some g1 :: some g4 :: F)) y yc) := HR.out.1.mono (belowE Hb5.out (fun _ h => .inl h))
   have HX5 : Hid (ER (fragE w5 (some g1 :: some g4 :: F)) ex exc) := HX.out.mono (belowE Hbw5.out (fun k hk => by
    simp only [List.mem_cons] at hk
    rcases hk with hk | hk | hk
    ·right; cases hk; exact Hg1.out.1
    ·right; cases hk; have := Hg1.out; omega
    ·exact .inl hk))
   have HGet : Hid (∀ (E : List (Option Nat)) (wx : World), (∀ k, some k ∈ E → k < wx.heap.size) → FLe (fragE w5 (some g1 :: some g4 :: F)) (fragE wx E) → Calls Tryz.prog 71 #[.agg yc.toArray, .int .i64 num] wx (RetV E wx (get y num))) := fun E wx hE hle =>
    get_any y num yc wx E hE (HV5.out.mono hle) HMo.out (Nat.lt_trans HRg.out.2.2.1.2 (by decide))
   have HDo : Hid (∀ (E : List (Option Nat)) (wx : World) (gc : List Value), (∀ k, some k ∈ E → k < wx.heap.size) → Below w5.heap.size w5 wx → FLe (fragE w5 (some g1 :: some g4 :: F)) (fragE wx E) → VR (fragE wx E) (get y num) gc → Calls Tryz.prog 19 #[.agg exc.toArray, .agg gc.toArray] wx (RetR er E wx (ado ex (get y num)))) := fun E wx gc hE hb hle hv =>
    ih E ex (get y num) exc gc wx hE HRg.out.2.2.2.1 HRg.out.2.1 HRg.out.1 HRg.out.2.2.2.2 HRg.out.2.2.1.1 (HE.out _ (Hbw5.out.trans (hb.mono Hbw5.out.size))) (HX5.out.mono hle) hv
   clear hb5 hidx hB9 hg7 hB1 hB4 hks hkf
   go_wp2_with fail
   go_simp
   go_cut [8, 9] from 19 to 41 (fun s8 s9 Fw => ChRel er (some g1 :: some g4 :: F) w5 (ado ex (get y num)) s9 s8 Fw)
   case rest =>
    obtain ⟨g8, hg8, hs8, hbF, hrel⟩ := hcut
    subst hs8
    have Hg8 : Hid (w5.heap.size ≤ g8) := hg8
    have HbF := Yq hbF
    have HBc : Hid (Below g1 w2 wc) := (HB.out.trans (Hb5.out.mono (Nat.le_of_lt hgl))).trans (hbF.mono (Nat.le_of_lt hg1l))
    have HBw : Hid (Below w.heap.size w wc) := Hb2.out.trans (HBc.out.mono Hg1.out.1)
    have hB1 := HBB.out.1.below HbF.out hg1l
    have hB4 := HBB.out.2.below HbF.out HBB.out.2.lt
    have hB7 := HB7.out.below HbF.out hg7l
    clear q0 q1 q3 hbF hg8
    generalize hR : ado ex (get y num) = rr at *
    have HRR := Yq hR
    clear hR
    cases rr with
    | bad b =>
     have HK : Hid (Val.intoT fs r ro rn v = .bad b) := HbadK.out b rfl
     obtain ⟨et, ev, he⟩ := Errs.is er b
     replace hrel : u9 = er.of b := hrel
     rw [he] at hrel
     subst hrel
     have He := Yq he
     clear he hgl hwl hlt hb0 hkn hB1 hB7
     go_wp2_with (first
      | (refine wpList_store_all rfl 27 _ _ rfl g4 zV rfl rfl zV hB4 infoV rfl zV_one ?_; (intro w6 hB6 hgr6; replace HBw := Yq (Below.grown HBw.out hgr6 HBw.out.size (fun _ e => by cases e; have := Hg1.out; omega)))))
     rw [HK.out]
     refine bodyPost_ret (v := .tuple #[.agg zV.toArray, .iface et ev]) (results2_blk rfl _ _ g4 zV _ rfl rfl hB6 _ Tryz.underlying27 rfl infoV) rfl ⟨HBw.out, congrArg (fun z => Ending.returned (.tuple #[.agg zV.toArray, z])) He.out.symm⟩
    | ok z =>
     obtain ⟨h9, zc, hB8, hVz⟩ := hrel
     subst h9
     have HI' : Hid (IntoInv fs v (k + 1) (withV y num z)) := HokK.out z rfl
     have HW : Hid (Calls Tryz.prog 72 #[.agg yc.toArray, .int .i64 num, .agg zc.toArray] wc (RetV (some g1 :: some g4 :: F) wc (withV y num z))) :=
      with_any y z num yc zc wc (some g1 :: some g4 :: F) (fun k hk => Nat.lt_of_lt_of_le (HF5.out k hk) HbF.out.size) (HV5.out.mono (belowE HbF.out (fun _ h => .inl h))) (hVz.mono (subE _ (fun k hk => List.mem_cons_of_mem _ hk))) HMo.out HRg.out.2.2.1.2
     have HLz := Yq hVz.len
     have q3 := hB1.whole
     have q8 := hB8.whole
     have q7 := hB7.cell (o := 0) (u := .int .i64 num) rfl
     have HBq := Yq (And.intro hB1 hB4)
     clear hVz hB1 hB4 hB7 hB8
     go_wp2_with (first
      | (refine wpList_load_seg rfl 27 _ rfl _ _ rfl _ _ (by assumption) Tryz.underlying27 rfl ?_ ?_; (· first | exact iC infoV HLy | exact iC infoV HLz))
      | (go_at_call 72; (with_reducible refine HW.out.mono ?_); rintro e w6 ⟨rc, rfl, hVr, hb6⟩; have HVr := Yq hVr; have Hb6 := Yq hb6; have hB1 := HBq.out.1.below hb6 HBq.out.1.lt; have HLr := Yq hVr.len; have H1r := Yq hVr.shape.one; clear hVr hb6 q3 q8 q7)
      | (refine wpList_store_all rfl 27 _ _ rfl g1 rc rfl rfl yc (by assumption) ?_ ?_ ?_ ?_; (· exact iC infoV HLr); (· exact HLr.out.trans HLy.out.symm); (· exact H1r.out); (intro w7 hB7 hgr7; have HB7' := Yq hB7; have Hgr7 := Yq hgr7; clear hB1 hB7 hgr7)))
     have hcs : g1 < wc.heap.size := HBq.out.1.lt
     have HB7b : Hid (Below g1 wc w7) := Below.grown (Hb6.out.mono (Nat.le_of_lt hcs)) Hgr7.out (Nat.le_trans (Nat.le_of_lt hcs) Hb6.out.size) (fun _ e => by cases e; exact Nat.le_refl _)
     have HR' : Hid (VR (fragE w7 (some g1 :: some g4 :: F)) (withV y num z) rc ∧ Blk w7 g1 rc ∧ Blk w7 g4 zV) :=
      ⟨HVr.out.mono (grownE Hgr7.out (.inr (by simp)) (fun _ h => .inl h)), HB7'.out, (HBq.out.2.below Hb6.out HBq.out.2.lt).grown Hgr7.out (fun e => by cases e; have := Hg1.out; omega)⟩
     have HBn : Hid (Below g1 w2 w7) := HBc.out.trans HB7b.out
     go_roundw
     case rel => exact ⟨k + 1, withV y num z, rc, by omega, by go_num, HI', HR', HBn⟩
     case measure => simp [intOf]; omega
   have hS0 : (fun w' : World => (w'.rangeAt g7 1 exc ∧ w'.rangeAt g1 0 yc ∧ w'.cell? ⟨g7, 0, none⟩ = some (.int .i64 num) ∧ Below w5.heap.size w5 w')) w5.drew := ⟨q1, q3, q0, (Below.refl _ _).drew⟩
   refine wp_region_held_drew (S := fun w' => (w'.rangeAt g7 1 exc ∧ w'.rangeAt g1 0 yc ∧ w'.cell? ⟨g7, 0, none⟩ = some (.int .i64 num) ∧ Below w5.heap.size w5 w')) (by kernel_rfl) hS0 (fun hS => ?_)
   refine wpAnyH_take (i := 0) (v := .pointer (some ⟨g7, 1, none⟩)) rfl (by kernel_rfl) (by kernel_rfl) (by kernel_rfl) (fun _ _ _ h => h) (.inl ⟨by rfl, fun w hw => by go_simp⟩) hS ?_
   refine wpAnyH_take (i := 1) (v := .agg exc.toArray) rfl (by kernel_rfl) (by kernel_rfl) (by kernel_rfl) (fun _ _ _ h => h) (yieldsIf_load_mid (by rfl) 32 _ rfl g7 1 rfl exc _ (fun w h => h.1) Tryz.underlying32 rfl (iC infoE HLx)) hS ?_
   refine wpAnyH_take (i := 2) (v := .agg yc.toArray) rfl (by kernel_rfl) (by kernel_rfl) (by kernel_rfl) (fun _ _ _ h => h) (yieldsIf_load_mid (by rfl) 27 _ rfl g1 0 rfl yc _ (fun w h => h.2.1) Tryz.underlying27 rfl (iC infoV HLy)) hS ?_
   refine wpAnyH_take (i := 3) (v := .pointer (some ⟨g7, 0, none⟩)) rfl (by kernel_rfl) (by kernel_rfl) (by kernel_rfl) (fun _ _ _ h => h) (.inl ⟨by rfl, fun w hw => by go_simp⟩) hS ?_
   refine wpAnyH_take (i := 4) (v := .int .i64 num) rfl (by kernel_rfl) (by kernel_rfl) (by kernel_rfl) (fun _ _ _ h => h) (.inl ⟨by rfl, fun w hw => by have hc := hw.2.2.1; clear hw; go_simp⟩) hS ?_
   refine wpAnyH_ready (rs := [5, 10]) (by kernel_rfl) (by simp) ?_
   refine AllReadyH.cons rfl (fun K hK => ?_) ?_
   ·go_simp
    refine (HGet.out (some g1 :: some g4 :: F) w5.drew HF5.out (FLe.refl _)).mono ?_
    rintro e w6 ⟨gc, rfl, hV6, hb6'⟩
    have hb6 : Below w5.heap.size w5 w6 := (Below.refl _ _).drew.trans hb6'
    refine hK.out _ _ ⟨range_below q1 hb6 hg7l, range_below q3 hb6 hg1l, (hb6.cell hg7l).trans q0, hb6⟩ (fun hS => ?_)
    clear hK
    refine wpAnyH_ready (rs := [6, 10]) (by kernel_rfl) (by simp) ?_
    refine AllReadyH.cons rfl (fun K hK => ?_) ?_
    ·go_simp
     refine (HDo.out (some g1 :: some g4 :: F) w6 gc (fun k hk => Nat.lt_of_lt_of_le (HF5.out k hk) hb6.size) hb6 (belowE hb6 (fun _ h => .inl h)) hV6).mono ?_
     rintro e w7 hR
     obtain ⟨cs, ev, rfl, hcl, hc1, hbR, hV⟩ := RetR.form hR
     have hb7 : Below w5.heap.size w5 w7 := hb6.trans (hbR.mono hb6.size)
     refine hK.out _ _ ⟨range_below q1 hb7 hg7l, range_below q3 hb7 hg1l, (hb7.cell hg7l).trans q0, hb7⟩ (fun HSS => ?_)
     clear hK
     refine wpAnyH_take (i := 7) (v := .tuple #[.agg cs.toArray, ev]) rfl (by kernel_rfl) (by kernel_rfl) (by kernel_rfl) (fun _ _ _ h => h) (.inl ⟨by rfl, fun w hw => by go_simp⟩) HSS ?_
     refine wpAnyH_take (i := 8) (v := .agg cs.toArray) rfl (by kernel_rfl) (by kernel_rfl) (by kernel_rfl) (fun _ _ _ h => h) (.inl ⟨by rfl, fun w hw => by go_simp⟩) HSS ?_
     refine wpAnyH_take (i := 9) (v := ev) rfl (by kernel_rfl) (by kernel_rfl) (by kernel_rfl) (fun _ _ _ h => h) (.inl ⟨by rfl, fun w hw => by go_simp⟩) HSS ?_
     refine wpAnyH_ready (rs := [10]) (by kernel_rfl) (by simp) ?_
     refine AllReadyH.cons rfl (fun K hK => ?_) AllReadyH.nil
     go_simp
     have hb8 : Below w5.heap.size w5 (w7.alloc (.cells zV.toArray 27)) := hb7.alloc hb7.size _
     have hB8 : Blk (w7.alloc (.cells zV.toArray 27)) w7.heap.size zV := Blk.new w7 _ zV
     refine hK.out _ _ ⟨range_below q1 hb8 hg7l, range_below q3 hb8 hg1l, (hb8.cell hg7l).trans q0, hb8⟩ (fun HSS => ?_)
     clear hK
     have hleA : FLe (fragE w7 (some g1 :: some g4 :: F)) (fragE (w7.alloc (.cells zV.toArray 27)) (some w7.heap.size :: (some g1 :: some g4 :: F))) :=
      grownE (w' := (w7.alloc (.cells zV.toArray 27))) (World.grownBy_alloc w7 _ none) (.inl rfl) (fun k hk => by
       rcases List.mem_cons.1 hk with hk | hk
       ·right; cases hk; exact Nat.le_refl _
       ·exact .inl hk)
     refine wpAnyH_ready (rs := [11]) (by kernel_rfl) (by simp) ?_
     refine AllReadyH.cons rfl (fun K hK => ?_) AllReadyH.nil
     rw [if_pos (by rfl)]
     refine wp_store_blk 27 _ _ rfl w7.heap.size 0 _ cs zV rfl rfl rfl hB8 (infoV.trans (congrArg some hcl.symm)) (by rw [hcl]; decide) hc1 ?_
     have hg5 := setRow_grown (w := (w7.alloc (.cells zV.toArray 27))) (g := w7.heap.size) (patch zV 0 cs).toArray
     have hB5 : Blk ((w7.alloc (.cells zV.toArray 27)).setRow w7.heap.size (patch zV 0 cs).toArray) w7.heap.size cs := by
      have e : patch zV 0 cs = cs := by unfold patch; simp; rw [hcl]; decide
      have := hB8.set (patch zV 0 cs)
      rw [e] at this ⊢; exact this
     have hbF : Below w5.heap.size w5 ((w7.alloc (.cells zV.toArray 27)).setRow w7.heap.size (patch zV 0 cs).toArray) := Below.grown hb8 hg5 hb8.size (fun _ e => by cases e; exact hb7.size)
     have HRel := Yq (hV.rel (w1 := w5) (g := w7.heap.size) (E := (some g1 :: some g4 :: F)) (hleA.trans (grownE hg5 (.inr (by simp)) (fun _ h => .inl h))) hb7.size hbF hB5)
     refine hK.out _ _ ⟨range_below q1 hbF hg7l, range_below q3 hbF hg1l, (hbF.cell hg7l).trans q0, hbF⟩ (fun HSS => ?_)
     refine wpAnyH_take (i := 12) (v := ev) rfl (by kernel_rfl) (by kernel_rfl) (by kernel_rfl) (fun _ _ _ h => h) (.inl ⟨by rfl, fun w hw => by go_simp⟩) HSS ?_
     refine wpAnyH_done (by kernel_rfl) ?_ _
     clear hbF hB5 hg5 HSS hK
     go_wp2_with fail
     go_meet
     exact HRel.out
    ·refine AllReadyH.cons rfl (fun K hK => ?_) AllReadyH.nil
     go_simp
     have hb7 : Below w5.heap.size w5 (w6.alloc (.cells zV.toArray 27)) := hb6.alloc hb6.size _
     have hB7 : Blk (w6.alloc (.cells zV.toArray 27)) w6.heap.size zV := Blk.new w6 _ zV
     refine hK.out _ _ ⟨range_below q1 hb7 hg7l, range_below q3 hb7 hg1l, (hb7.cell hg7l).trans q0, hb7⟩ (fun HSS => ?_)
     clear hK
     refine wpAnyH_ready (rs := [6]) (by kernel_rfl) (by simp) ?_
     refine AllReadyH.cons rfl (fun K hK => ?_) AllReadyH.nil
     go_simp
     have hleA : FLe (fragE w6 (some g1 :: some g4 :: F)) (fragE (w6.alloc (.cells zV.toArray 27)) (some w6.heap.size :: (some g1 :: some g4 :: F))) :=
      grownE (w' := (w6.alloc (.cells zV.toArray 27))) (World.grownBy_alloc w6 _ none) (.inl rfl) (fun k hk => by
       rcases List.mem_cons.1 hk with hk | hk
       ·right; cases hk; exact Nat.le_refl _
       ·exact .inl hk)
     refine (HDo.out (some w6.heap.size :: (some g1 :: some g4 :: F)) (w6.alloc (.cells zV.toArray 27)) gc (fun k hk => by
      have h1 : (w6.alloc (.cells zV.toArray 27)).heap.size = w6.heap.size + 1 := World.size_alloc _ _
      rcases List.mem_cons.1 hk with hk | hk
      ·cases hk; omega
      ·have := HF5.out k hk; have := hb6.size; omega) hb7 ((belowE hb6 (fun _ h => .inl h)).trans hleA) (hV6.mono hleA)).mono ?_
     rintro e w8 hR
     obtain ⟨cs, ev, rfl, hcl, hc1, hbR, hV⟩ := RetR.form hR
     have hb8 : Below w5.heap.size w5 w8 := hb7.trans (hbR.mono hb7.size)
     have hB8 : Blk w8 w6.heap.size zV := hB7.below hbR hB7.lt
     refine hK.out _ _ ⟨range_below q1 hb8 hg7l, range_below q3 hb8 hg1l, (hb8.cell hg7l).trans q0, hb8⟩ (fun HSS => ?_)
     clear hK
     refine wpAnyH_take (i := 7) (v := .tuple #[.agg cs.toArray, ev]) rfl (by kernel_rfl) (by kernel_rfl) (by kernel_rfl) (fun _ _ _ h => h) (.inl ⟨by rfl, fun w hw => by go_simp⟩) HSS ?_
     refine wpAnyH_take (i := 8) (v := .agg cs.toArray) rfl (by kernel_rfl) (by kernel_rfl) (by kernel_rfl) (fun _ _ _ h => h) (.inl ⟨by rfl, fun w hw => by go_simp⟩) HSS ?_
     refine wpAnyH_take (i := 9) (v := ev) rfl (by kernel_rfl) (by kernel_rfl) (by kernel_rfl) (fun _ _ _ h => h) (.inl ⟨by rfl, fun w hw => by go_simp⟩) HSS ?_
     refine wpAnyH_ready (rs := [11]) (by kernel_rfl) (by simp) ?_
     refine AllReadyH.cons rfl (fun K hK => ?_) AllReadyH.nil
     rw [if_pos (by rfl)]
     refine wp_store_blk 27 _ _ rfl w6.heap.size 0 _ cs zV rfl rfl rfl hB8 (infoV.trans (congrArg some hcl.symm)) (by rw [hcl]; decide) hc1 ?_
     have hg5 := setRow_grown (w := w8) (g := w6.heap.size) (patch zV 0 cs).toArray
     have hB5 : Blk (w8.setRow w6.heap.size (patch zV 0 cs).toArray) w6.heap.size cs := by
      have e : patch zV 0 cs = cs := by unfold patch; simp; rw [hcl]; decide
      have := hB8.set (patch zV 0 cs)
      rw [e] at this ⊢; exact this
     have hbF : Below w5.heap.size w5 (w8.setRow w6.heap.size (patch zV 0 cs).toArray) := Below.grown hb8 hg5 hb8.size (fun _ e => by cases e; exact hb6.size)
     have HRel := Yq (hV.rel (w1 := w5) (g := w6.heap.size) (E := (some g1 :: some g4 :: F)) ((grownE hg5 (.inr (by simp)) (fun _ h => .inl h))) hb6.size hbF hB5)
     refine hK.out _ _ ⟨range_below q1 hbF hg7l, range_below q3 hbF hg1l, (hbF.cell hg7l).trans q0, hbF⟩ (fun HSS => ?_)
     refine wpAnyH_take (i := 12) (v := ev) rfl (by kernel_rfl) (by kernel_rfl) (by kernel_rfl) (fun _ _ _ h => h) (.inl ⟨by rfl, fun w hw => by go_simp⟩) HSS ?_
     refine wpAnyH_done (by kernel_rfl) ?_ _
     clear hbF hB5 hg5 HSS hK
     go_wp2_with fail
     go_meet
     exact HRel.out
   ·refine AllReadyH.cons rfl (fun K hK => ?_) AllReadyH.nil
    go_simp
    have hb6 : Below w5.heap.size w5 ((w5.alloc (.cells zV.toArray 27)).drew) := ((Below.refl _ _).alloc (Nat.le_refl _) _).drew
    have hB6 : Blk ((w5.alloc (.cells zV.toArray 27)).drew) w5.heap.size zV := Blk.new w5 _ zV
    refine hK.out _ _ ⟨range_below q1 hb6 hg7l, range_below q3 hb6 hg1l, (hb6.cell hg7l).trans q0, hb6⟩ (fun HSS => ?_)
    clear hK
    refine wpAnyH_ready (rs := [5]) (by kernel_rfl) (by simp) ?_
    refine AllReadyH.cons rfl (fun K hK => ?_) AllReadyH.nil
    go_simp
    have hleA : FLe (fragE w5 (some g1 :: some g4 :: F)) (fragE ((w5.alloc (.cells zV.toArray 27)).drew) (some w5.heap.size :: (some g1 :: some g4 :: F))) :=
     grownE (w' := (w5.alloc (.cells zV.toArray 27))) (World.grownBy_alloc w5 _ none) (.inl rfl) (fun k hk => by
      rcases List.mem_cons.1 hk with hk | hk
      ·right; cases hk; exact Nat.le_refl _
      ·exact .inl hk)
    have hF6 : ∀ k, some k ∈ (some w5.heap.size :: (some g1 :: some g4 :: F)) → k < ((w5.alloc (.cells zV.toArray 27)).drew).heap.size := fun k hk => by
     have h1 : ((w5.alloc (.cells zV.toArray 27)).drew).heap.size = w5.heap.size + 1 := World.size_alloc _ _
     rcases List.mem_cons.1 hk with hk | hk
     ·cases hk; omega
     ·have := HF5.out k hk; omega
    refine (HGet.out (some w5.heap.size :: (some g1 :: some g4 :: F)) ((w5.alloc (.cells zV.toArray 27)).drew) hF6 hleA).mono ?_
    rintro e w7 ⟨gc, rfl, hV7, hb7'⟩
    have hb7 : Below w5.heap.size w5 w7 := hb6.trans (hb7'.mono hb6.size)
    have hB7 : Blk w7 w5.heap.size zV := hB6.below hb7' hB6.lt
    refine hK.out _ _ ⟨range_below q1 hb7 hg7l, range_below q3 hb7 hg1l, (hb7.cell hg7l).trans q0, hb7⟩ (fun HSS => ?_)
    clear hK
    refine wpAnyH_ready (rs := [6]) (by kernel_rfl) (by simp) ?_
    refine AllReadyH.cons rfl (fun K hK => ?_) AllReadyH.nil
    go_simp
    refine (HDo.out (some w5.heap.size :: (some g1 :: some g4 :: F)) w7 gc (fun k hk => Nat.lt_of_lt_of_le (hF6 k hk) hb7'.size) hb7 (hleA.trans (belowE hb7' (fun _ h => .inl h))) hV7).mono ?_
    rintro e w8 hR
    obtain ⟨cs, ev, rfl, hcl, hc1, hbR, hV⟩ := RetR.form hR
    have hb8 : Below w5.heap.size w5 w8 := hb7.trans (hbR.mono hb7.size)
    have hB8 : Blk w8 w5.heap.size zV := hB7.below hbR hB7.lt
    refine hK.out _ _ ⟨range_below q1 hb8 hg7l, range_below q3 hb8 hg1l, (hb8.cell hg7l).trans q0, hb8⟩ (fun HSS => ?_)
    clear hK
    refine wpAnyH_take (i := 7) (v := .tuple #[.agg cs.toArray, ev]) rfl (by kernel_rfl) (by kernel_rfl) (by kernel_rfl) (fun _ _ _ h => h) (.inl ⟨by rfl, fun w hw => by go_simp⟩) HSS ?_
    refine wpAnyH_take (i := 8) (v := .agg cs.toArray) rfl (by kernel_rfl) (by kernel_rfl) (by kernel_rfl) (fun _ _ _ h => h) (.inl ⟨by rfl, fun w hw => by go_simp⟩) HSS ?_
    refine wpAnyH_take (i := 9) (v := ev) rfl (by kernel_rfl) (by kernel_rfl) (by kernel_rfl) (fun _ _ _ h => h) (.inl ⟨by rfl, fun w hw => by go_simp⟩) HSS ?_
    refine wpAnyH_ready (rs := [11]) (by kernel_rfl) (by simp) ?_
    refine AllReadyH.cons rfl (fun K hK => ?_) AllReadyH.nil
    rw [if_pos (by rfl)]
    refine wp_store_blk 27 _ _ rfl w5.heap.size 0 _ cs zV rfl rfl rfl hB8 (infoV.trans (congrArg some hcl.symm)) (by rw [hcl]; decide) hc1 ?_
    have hg5 := setRow_grown (w := w8) (g := w5.heap.size) (patch zV 0 cs).toArray
    have hB5 : Blk (w8.setRow w5.heap.size (patch zV 0 cs).toArray) w5.heap.size cs := by
     have e : patch zV 0 cs = cs := by unfold patch; simp; rw [hcl]; decide
     have := hB8.set (patch zV 0 cs)
     rw [e] at this ⊢; exact this
    have hbF : Below w5.heap.size w5 (w8.setRow w5.heap.size (patch zV 0 cs).toArray) := Below.grown hb8 hg5 hb8.size (fun _ e => by cases e; exact (Nat.le_refl _))
    have HRel := Yq (hV.rel (w1 := w5) (g := w5.heap.size) (E := (some g1 :: some g4 :: F)) ((grownE hg5 (.inr (by simp)) (fun _ h => .inl h))) (Nat.le_refl _) hbF hB5)
    refine hK.out _ _ ⟨range_below q1 hbF hg7l, range_below q3 hbF hg1l, (hbF.cell hg7l).trans q0, hbF⟩ (fun HSS => ?_)
    refine wpAnyH_take (i := 12) (v := ev) rfl (by kernel_rfl) (by kernel_rfl) (by kernel_rfl) (fun _ _ _ h => h) (.inl ⟨by rfl, fun w hw => by go_simp⟩) HSS ?_
    refine wpAnyH_done (by kernel_rfl) ?_ _
    clear hbF hB5 hg5 HSS hK
    go_wp2_with fail
    go_meet
    exact HRel.out
  ·obtain rfl : k = ns := by omega
   have Hfin : Hid (adoF fs v = .ok y) := IntoInv.fin (by rw [Hm.out]; exact HI.out)
   have hB0 := HB0.out.below HB.out Hg1.out.2.1
   have hq := HA.out _ _ hB0
   have q16 := hq.c16
   have q17 := hq.c17
   have q18 := hq.c18
   obtain ⟨yk, yn, yt, yfs, yr, yl, yps⟩ := y
   have hV := HR.out.1
   rw [VR] at hV
   obtain ⟨yfv, ylv, ypv, yfe, yle, ype, rfl, hys, ⟨y1, y2, y3⟩, y4, y5, y6⟩ := hV
   have q4 := HR.out.2.1.cell (o := 4) rfl
   have HB4 := Yq HR.out.2.2
   have HB1 := Yq HR.out.2.1
   have HVy := Yq HR.out.1
   have HY := Yq (And.intro hys (And.intro (And.intro y1 (And.intro y2 y3)) (And.intro y4 (And.intro y5 y6))))
   have hg4w : w.heap.size ≤ g4 := by have := Hg1.out; omega
   clear hys y1 y2 y3 y4 y5 y6 hB0 hq hlt hkn hc1
   cases r with
   | false =>
    have HK : Hid (Val.intoT fs false ro rn v = .ok (.mk yk yn yt yfs yr yl yps)) := by show _ = _; unfold Val.intoT; rw [Hfin.out]; rfl
    have q3 := HB1.out.whole
    have hB4 := HB4.out
    go_wp2_with (first
     | (refine wpList_load_seg rfl 27 _ rfl _ _ rfl _ _ (by assumption) Tryz.underlying27 rfl ?_ ?_; (· exact infoV))
     | (refine wpList_store_all rfl 27 _ _ rfl g4 [.int .i64 yk, .int .u64 yn, .string yt, yfv, .string yr, ylv, ypv] rfl rfl zV (by assumption) infoV rfl HVy.out.shape.one ?_; (intro w6 hB6 hgr6; have Hgr6 := Yq hgr6; replace Hbw := Yq (Below.grown Hbw.out hgr6 Hbw.out.size (fun _ e => by cases e; exact hg4w)))))
    rw [HK.out]
    exact bodyPost_ret (v := .tuple #[.agg [.int .i64 yk, .int .u64 yn, .string yt, yfv, .string yr, ylv, ypv].toArray, .nilIface]) (results2_blk rfl _ _ g4 _ _ rfl rfl hB6 _ Tryz.underlying27 rfl infoV) rfl ⟨Hbw.out, _, rfl, HVy.out.mono (grownE Hgr6.out (.inr (by simp)) (fun k hk => .inl (by simp [hk])))⟩
   | true =>
    by_cases hq : yr = ro
    ·have hs : (yr.toList == ro.toList) = true := by rw [hq]; simp
     have HK : Hid (Val.intoT fs true ro rn v = .ok (.mk yk yn yt yfs rn yl yps)) := by show _ = _; unfold Val.intoT; rw [Hfin.out]; simp only [if_true]; exact if_pos hq
     clear hq
     have hB1 := HB1.out
     have hB4 := HB4.out
     go_wp2_with (first
      | (refine wpList_store_blk1 rfl _ _ _ rfl g1 4 _ rfl rfl _ hB1 (by kernel_rfl) (show 4 + 1 ≤ 7 by decide) rfl ?_; (intro w5 hB5 hg5 hs5; have q3 : w5.rangeAt g1 0 [.int .i64 yk, .int .u64 yn, .string yt, yfv, .string rn, ylv, ypv] := hB5.whole; have Hg5 := Yq hg5; replace hB4 := hB4.grown hg5 (fun e => by cases e; have := Hg1.out; omega); clear hB1 hB5 q4 hg5 hs5))
      | (refine wpList_load_seg rfl 27 _ rfl _ _ rfl _ _ q3 Tryz.underlying27 rfl ?_ ?_; (· exact infoV))
      | (refine wpList_store_all rfl 27 _ _ rfl g4 [.int .i64 yk, .int .u64 yn, .string yt, yfv, .string rn, ylv, ypv] rfl rfl zV (by assumption) infoV rfl (fun u hu => by
        have h1 := HVy.out.shape.one
        simp only [List.mem_cons, List.not_mem_nil, or_false] at hu h1
        rcases hu with rfl | rfl | rfl | rfl | rfl | rfl | rfl
        ·rfl
        ·rfl
        ·rfl
        ·exact h1 _ (.inr (.inr (.inr (.inl rfl))))
        ·rfl
        ·exact h1 _ (.inr (.inr (.inr (.inr (.inr (.inl rfl))))))
        ·exact h1 _ (.inr (.inr (.inr (.inr (.inr (.inr rfl))))))) ?_; (intro w6 hB6 hgr6; have Hgr6 := Yq hgr6; replace Hbw := Yq (Below.grown (Below.grown Hbw.out Hg5.out Hbw.out.size (fun _ e => by cases e; exact Hg1.out.1)) hgr6 (Nat.le_trans Hbw.out.size Hg5.out.size) (fun _ e => by cases e; exact hg4w)))))
     rw [HK.out]
     refine bodyPost_ret (v := .tuple #[.agg [.int .i64 yk, .int .u64 yn, .string yt, yfv, .string rn, ylv, ypv].toArray, .nilIface]) (results2_blk rfl _ _ g4 _ _ rfl rfl hB6 _ Tryz.underlying27 rfl infoV) rfl ⟨Hbw.out, _, rfl, ?_⟩
     have hle : FLe (fragE wr (some g1 :: some g4 :: F)) (fragE w6 F) := (grownE Hg5.out (.inr (by simp)) (fun _ h => .inl h)).trans (grownE Hgr6.out (.inr (by simp)) (fun k hk => .inl (by simp [hk])))
     rw [VR]
     obtain ⟨hys, ⟨y1, y2, y3⟩, y4, y5, y6⟩ := HY.out
     exact ⟨_, _, _, _, _, _, rfl, ⟨hys.1, HSZ.out⟩, ⟨y1.mono hle, y2.mono hle, y3.mono hle⟩, y4.mono hle, y5.mono hle, y6.mono hle⟩
    ·have hs : (yr.toList == ro.toList) = false := by rw [toList_beq]; simpa using hq
     have HK : Hid (Val.intoT fs true ro rn v = .bad 13) := by show _ = _; unfold Val.intoT; rw [Hfin.out]; simp only [if_true]; exact if_neg hq
     clear hq
     have hE := (HE.out _ Hbw.out).c
     obtain ⟨⟨z0, z1, z2, z3, z4, z5, z6⟩, f0, f1, f2, f3, f4, f5, f6⟩ := HB4.out.zero
     have n1 : ¬ g4 = 12 := fun e => absurd hg4w (by have := HG.out.c; omega)
     have n2 : ¬ 12 = g4 := fun e => n1 e.symm
     go_wp2_with fail
     go_region
     all_goals
      go_wp2_with fail
      rw [HK.out]
      refine bodyPost_ret (v := .tuple #[.agg zV.toArray, er.c]) (results2_blk rfl _ _ g4 zV _ rfl rfl ?_ _ Tryz.underlying27 rfl infoV) rfl ⟨?_, rfl⟩
      ·exact blk_zeroed HB4.out
      ·exact below_zeroed Hbw.out hg4w
end Go.Proofs.YtebekgdjknenlaaGreatDoor
