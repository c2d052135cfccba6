/- apply.row, walked. What holds at a round of apply.into and of apply.book. -/
import Derived.Test.YtebekgdjknenlaaGreatDoorGpAW
set_option maxRecDepth 100000
set_option maxHeartbeats 4000000
set_option linter.unusedVariables false
set_option linter.unusedSimpArgs false
namespace Go.Proofs.YtebekgdjknenlaaGreatDoor
open Go.RowKit
open Val (V E cmp right eright esm esmS v0 Res ado adoS get find withV putV vmx vmxL esz eszS partB stepB allS mkL)
def Val.rowT (s : List (Int × Int × V × E)) (l : List V) : Res V := match adoS s l [] with
   | .bad b => .bad b
   | .ok p => if 0 < p.1.length then .bad 13 else .ok (mkL p.2)
theorem Val.rowT_bad {s : List (Int × Int × V × E)} {l : List V} {b : Nat} (h : adoS s l [] = .bad b) : Val.rowT s l = .bad b := by unfold Val.rowT; rw [h]
theorem Val.rowT_left {s : List (Int × Int × V × E)} {l a o : List V} (h : adoS s l [] = .ok (a, o)) (ha : 0 < a.length) : Val.rowT s l = .bad 13 := by unfold Val.rowT; rw [h]; exact if_pos ha
theorem Val.rowT_ok {s : List (Int × Int × V × E)} {l o : List V} (h : adoS s l [] = .ok ([], o)) : Val.rowT s l = .ok (mkL o) := by unfold Val.rowT; rw [h]; rfl
theorem v0_any (h : Frag) : VR h v0 zV := by
 unfold v0; rw [VR]
 exact ⟨_, _, _, [], [], [], rfl, ⟨by decide, by decide⟩, ⟨FlatC.nil 8 h, FlatC.nil 7 h, FlatC.nil 14 h⟩, by rw [FsR], by rw [LsR], by rw [PsR]⟩
theorem row_bad (er : Errs) (F : List (Option Nat)) (x : E) (v : V) (xc vc : List Value) (w : World) (he : ErrsAt er w) (hv : VR (fragE w F) v vc) (hk : ¬ (v.kind = 4 ∨ v.kind = 0)) :
  Calls Tryz.prog 40 #[.agg xc.toArray, .agg vc.toArray] w (RetR er F w (.bad 13)) := by
 have HE := Yq (fun (wx : World) (hb : Below w.heap.size w wx) => (he.keep hb).c)
 have Hlt := Yq (World.block_lt_of_cell? w _ he.c)
 have HV := Yq (fun (w2 : World) (g : Nat) (hB : Blk w2 g vc) => hB.cell hv.k0)
 obtain ⟨hk1, hk2⟩ := not_or.1 hk
 have hd1 : decide (v.kind = 4) = false := decide_eq_false hk1
 have hd2 : decide (v.kind = 0) = false := decide_eq_false hk2
 clear he hv hk
 generalize v.kind = kd at *
 go_enter Tryz.func40, Tryz.ntmps40
 go_wp2_with (first
  | (refine wpList_box_lay rfl 32 _ rfl _ rfl ?_; (intro w0 g0 hg0 hB0 hb0))
  | (refine wpList_box_lay rfl 27 _ rfl _ rfl ?_; (intro w1 g1 hg1 hB1 hb1; replace hb0 := hb0.trans (hb1.mono hb0.size)))
  | (refine wpList_alloc_lay rfl 27 rfl zV zeroV ?_; (intro w2 g2 hg2 hB2 hb2; replace hB1 := hB1.below hb2 hB1.lt; replace hg2 := Nat.le_trans hb0.size hg2; replace hb0 := hb0.trans (hb2.mono hb0.size); clear hb1 hb2; have q0 := HV.out _ _ hB1)))
 have hE := HE.out _ hb0
 obtain ⟨⟨z0, z1, z2, z3, z4, z5, z6⟩, f0, f1, f2, f3, f4, f5, f6⟩ := hB2.zero
 have n1 : ¬ g2 = 12 := fun e => absurd hg2 (by have := Hlt.out; omega)
 have n2 : ¬ 12 = g2 := fun e => n1 e.symm
 clear hg0 hg1
 go_region
 all_goals
  go_wp2_with fail
  refine bodyPost_ret (v := .tuple #[.agg zV.toArray, er.c]) (results2_blk rfl _ _ g2 zV _ rfl rfl ?_ _ Tryz.underlying27 rfl infoV) rfl ⟨?_, rfl⟩
  ·exact blk_zeroed hB2
  ·exact below_zeroed hb0 hg2
theorem StepPost.form {er : Errs} {Fx : List (Option Nat)} {w w' : World} {gr : Nat} {r : Res (List V × List V)} {e : Ending} (h : StepPost er Fx w gr r e w') : ∃ s9, e = .returned s9 := by
 obtain ⟨_, h⟩ := h
 cases r with
 | bad b => exact ⟨_, h⟩
 | ok p => exact ⟨_, h.1⟩
theorem row_good (er : Errs) (N : Nat) (ih : DoAt er N) (F : List (Option Nat)) (x : E) (v : V) (xc vc : List Value) (w : World) (hF : ∀ k, some k ∈ F → k < w.heap.size) (hs : ∀ s ∈ x.steps, SizeOf.sizeOf s.2.2.2 < N) (hst : allS x.steps) (hsm : esmS x.steps)
  (hvr : ∀ y ∈ v.list, partB y = true) (hbd : vmx v + eszS x.steps ≤ 90000) (he : ErrsAt er w) (hx : ER (fragE w F) x xc) (hv : VR (fragE w F) v vc) (hk : v.kind = 4 ∨ v.kind = 0) :
  Calls Tryz.prog 40 #[.agg xc.toArray, .agg vc.toArray] w (RetR er F w (Val.rowT x.steps v.list)) := by
 have HE := Yq (fun (wx : World) (hb : Below w.heap.size w wx) => (he.keep hb))
 have HG := Yq he.lt
 have HF := Yq hF
 obtain ⟨kd, o, nw, fs, r, ro, rn, s, ks⟩ := x
 obtain ⟨vk, vn, vt, vfs, vr, vl, vps⟩ := v
 simp only [Val.E.steps, Val.V.list, Val.V.kind] at *
 rw [ER] at hx
 obtain ⟨oc, nc, fv, sv, kv, fe, se, ke, rfl, hsz, ⟨h3, h4⟩, ⟨h5, h6, h7⟩, h8, h9, h10⟩ := hx
 obtain ⟨a1, c1, rfl, _⟩ := h5.len
 obtain ⟨a2, c2, rfl, hc1, hc2, hcn⟩ := h6.len
 obtain ⟨a3, c3, rfl, _⟩ := h7.len
 rw [VR] at hv
 obtain ⟨xfv, lv, pv, xfe, le, pe, rfl, _, ⟨_, hL, _⟩, _, hLs, _⟩ := hv
 obtain ⟨la, lcap, rfl, lc1, lc2, ln⟩ := hL.len
 have HA := Yq (fun (w2 : World) (g : Nat) (hB : Blk w2 g (.int .i64 kd :: (oc ++ (nc ++ [.slice a1 fe.length c1, .bool r, .string ro, .string rn, .slice a2 se.length c2, .slice a3 ke.length c3])))) => (EdAt.of h3.len h4.len hB).c19)
 have HV := Yq (fun (w2 : World) (g : Nat) (hB : Blk w2 g [.int .i64 vk, .int .u64 vn, .string vt, xfv, .string vr, .slice la le.length lcap, pv]) => And.intro (hB.cell (o := 0) rfl) (hB.cell (o := 5) rfl))
 have H6 := Yq h6; have H9 := Yq h9; have HL := Yq hL; have HLs := Yq hLs
 have HS := Yq hs; have HST := Yq hst; have HM := Yq hsm; have HVR := Yq hvr; have HBD := Yq hbd
 have hlen := h9.len
 obtain ⟨ns, hn⟩ : ∃ ns, ns = se.length := ⟨_, rfl⟩
 rw [← hn] at HA H6 hc1 hlen ⊢
 have Hn := Yq hn.symm; have Hm := Yq hlen.symm; clear hn hlen
 clear h3 h4 h5 h6 h7 h8 h9 h10 hL hLs hs hst hsm hvr hbd he hF hsz
 generalize hxc : (Value.int .i64 kd :: (oc ++ (nc ++ [.slice a1 fe.length c1, .bool r, .string ro, .string rn, .slice a2 ns c2, .slice a3 ke.length c3]))) = xc at *
 clear hxc
 have hns : ns ≤ 9223372036854775807 := by have := hc2; unfold maxLen at this; omega
 go_enter Tryz.func40, Tryz.ntmps40
 go_wp2_with (first
  | (refine wpList_box_lay rfl 32 _ rfl _ rfl ?_; (intro w0 g0 hg0 hB0 hb0))
  | (refine wpList_box_lay rfl 27 _ rfl _ rfl ?_; (intro w1 g1 hg1 hB1 hb1; replace hB0 := hB0.below hb1 hB0.lt; replace hb0 := hb0.trans (hb1.mono hb0.size)))
  | (refine wpList_alloc_lay rfl 27 rfl zV zeroV ?_; (intro w2 g4 hg4 hB4 hb2; replace hB0 := hB0.below hb2 hB0.lt; replace hB1 := hB1.below hb2 hB1.lt; replace hg4 := Nat.le_trans hb0.size hg4; replace hb0 := hb0.trans (hb2.mono hb0.size); clear hb1 hb2; obtain ⟨q0, q5⟩ := HV.out _ _ hB1; have q19 := HA.out _ _ hB0))
  | (refine wpList_box_lay rfl 122 _ rfl _ rfl ?_; (intro w3 gr hgr hBr hb3; have hz4 := hB4.lt; replace hB4 := hB4.below hb3 hz4; replace hB0 := hB0.below hb3 hB0.lt; have q19 := HA.out _ _ hB0)))
 all_goals
  have Hgr : Hid (w.heap.size ≤ gr) := Nat.le_trans hb0.size hgr
  have Hg4 : Hid (w.heap.size ≤ g4 ∧ g4 < gr) := ⟨hg4, Nat.lt_of_lt_of_le hz4 hgr⟩
  have Hb3 : Hid (Below w.heap.size w w3) := hb0.trans (hb3.mono hb0.size)
  have HB4 := Yq hB4
  have hFx : ∀ k, some k ∈ some g4 :: F → k < gr := fun k hk => by
   rcases List.mem_cons.1 hk with hk | hk
   ·cases hk; exact Hg4.out.2
   ·exact Nat.lt_of_lt_of_le (HF.out k hk) Hgr.out
  have HFx := Yq hFx
  have hle : FLe (fragE w F) (fragE w3 (some gr :: (Value.slice none 0 0).ownBlock :: some g4 :: F)) := belowE Hb3.out (fun k hk => by
   simp only [List.mem_cons] at hk
   rcases hk with hk | hk | hk | hk
   ·right; cases hk; exact Hgr.out
   ·cases hk
   ·right; cases hk; exact Hg4.out.1
   ·exact .inl hk)
  have Hrow : Hid (RowAt (some g4 :: F) w3 gr la le.length lcap (.slice none 0 0) vl [] le []) :=
   ⟨hBr, HL.out.mono hle, HLs.out.mono hle, ⟨rfl, .inl ⟨rfl, rfl⟩⟩, rfl⟩
  clear hFx hle hB0 hB1 hB4 hBr q0 q5 q19 hg0 hg1 hgr hg4 hz4 hb0 hb3
  go_loopw [27] (fun i wr => ∃ (k : Nat) (l oo : List V) (av : Option Addr) (n cap : Nat) (ov : Value) (les oes : List (List Value)), k ≤ ns ∧ i = .int .i64 k ∧ Hid (RowInv s (.mk vk vn vt vfs vr vl vps) k l oo) ∧ Hid (RowAt (some g4 :: F) wr gr av n cap ov l oo les oes) ∧ Hid (Below gr w3 wr)) (fun i _ => ns - (intOf i).toNat)
  case atStart => exact ⟨0, vl, [], la, le.length, lcap, .slice none 0 0, le, [], Nat.zero_le _, rfl, RowInv.start _ _, Hrow.out, Below.refl _ _⟩
  case round =>
   obtain ⟨k, l, oo, av, n, cap, ov, les, oes, hkn, rfl, HI, HR, HB⟩ := hrel
   have Hbw : Hid (Below w.heap.size w wr) := Hb3.out.trans (HB.out.mono Hgr.out)
   by_cases hlt : k < ns
   ·have hks : k < se.length := by rw [Hn.out]; exact hlt
    have hkf : k < s.length := by rw [Hm.out]; exact hlt
    obtain ⟨b0, o0, hb0, hidx, hcell⟩ := FlatC.at (n := ns) (cap := c2) (a := a2) (H6.out.mono (fragE_le _ _)) (by decide) (i := k) hks Tryz.underlying29 sizeES
    obtain ⟨yv, yx, hx, rv, rx⟩ := H9.out.at hkf hks
    have hr : wr.rangeAt b0 o0 se[k] := range_below hcell Hbw.out hb0
    rw [hx] at hr
    have H30 := step30 s[k].1 s[k].2.1 rv.shape rx.shape
    have HL30 := Yq H30.1
    have H1 := Yq H30.2
    have hgl : gr < wr.heap.size := HR.out.blk.lt
    have hwl : w.heap.size ≤ wr.heap.size := Hbw.out.size
    have hstep : ∀ (wx : World) (hb : Below wr.heap.size wr wx), Calls Tryz.prog (fnOf s[k].1) #[.pointer (some ⟨gr, 0, none⟩), .agg (Value.int .i64 s[k].1 :: .int .i64 s[k].2.1 :: (yv ++ yx)).toArray] wx (StepPost er (some g4 :: F) wx gr (Val.stepR s[k].1 s[k].2.1 s[k].2.2.1 s[k].2.2.2 l oo)) := fun wx hb => by
     have hbx := Hbw.out.trans (hb.mono hwl)
     have hl5 : FLe (fragE w F) (fragE wx (some gr :: ov.ownBlock :: some g4 :: F)) := belowE hbx (fun k hk => by
      simp only [List.mem_cons] at hk
      rcases hk with hk | hk | hk | hk
      ·right; cases hk; exact Hgr.out
      ·right
       have h1 := (HR.out.own.lt k hk.symm).1
       have h2 := Hgr.out
       omega
      ·right; cases hk; exact Hg4.out.1
      ·exact .inl hk)
     have hE := Val.eszS_at hkf
     have hB := HBD.out
     have hp := Val.vmx_parts (.mk vk vn vt vfs vr vl vps)
     simp only [Val.V.list] at hp
     have hI := HI.out.2.2
     simp only [Val.V.list] at hI
     exact step_fn er N ih wx (HE.out _ hbx) gr ⟨Nat.lt_of_lt_of_le HG.out.f Hgr.out, Nat.lt_of_lt_of_le HG.out.k Hgr.out, Nat.lt_of_lt_of_le HG.out.c Hgr.out⟩ av n cap ov l oo les oes (HR.out.keep hb) s[k].1 s[k].2.1 s[k].2.2.1 s[k].2.2.2 yv yx (rv.mono hl5) (rx.mono hl5) (HST.out _ (List.getElem_mem hkf)) (HS.out _ (List.getElem_mem hkf)) (Val.esmS_at HM.out _ (List.getElem_mem hkf))
      (fun y hy => by
       have h1 := HI.out.2.1 y hy
       have h2 := Val.vmxL_mem h1
       simp only [Val.V.list] at h1 h2
       exact ⟨Val.part_right (HVR.out y h1), by omega⟩) (by omega) HFx.out
    have HST0 := Yq hstep
    have HBs := Yq (fun (w2 : World) (g : Nat) (hB : Blk w2 g (.int .i64 s[k].1 :: .int .i64 s[k].2.1 :: (yv ++ yx))) => And.intro (hB.cell (o := 0) (u := .int .i64 s[k].1) rfl) hB.whole)
    have HbadK := Yq (fun b (hR : Val.stepR s[k].1 s[k].2.1 s[k].2.2.1 s[k].2.2.2 l oo = .bad b) => HI.out.bad hkf HST.out hR)
    have HokK := Yq (fun l' o' (hR : Val.stepR s[k].1 s[k].2.1 s[k].2.2.1 s[k].2.2.2 l oo = .ok (l', o')) => HI.out.step hkf HST.out hR)
    clear hcell hx rv rx H30 hstep
    generalize Val.stepR s[k].1 s[k].2.1 s[k].2.2.1 s[k].2.2.2 l oo = rr at *
    generalize s[k].1 = sk at *
    generalize s[k].2.1 = sc at *
    go_wp2_with (first
     | (refine wpList_load_seg rfl 87 _ rfl _ _ rfl _ _ (by assumption) Tryz.underlying87 rfl (iC infoES HL30) ?_)
     | (refine wpList_alloc_lay rfl 87 rfl zES zeroES ?_; (intro w4 g8 hg8 hB8 hb4; clear hr))
     | (refine wpList_store_all rfl 87 _ _ rfl _ _ rfl rfl zES (by assumption) ?_ ?_ ?_ ?_; (· exact iC infoES HL30); (· exact HL30.out); (· exact H1.out); (intro w5 hB9 hgr5; have hb5 := Below.grown hb4 hgr5 hb4.size (fun _ e => by cases e; exact hg8); obtain ⟨q0, r0⟩ := HBs.out w5 _ hB9; clear hb4 hgr5 hB8 hB9)))
    have Hb5 := Yq hb5
    clear hb5 hidx
    go_wp2_with fail
    go_simp
    go_cut [9] from 28 to 41 (fun s9 Fw => StepPost er (some g4 :: F) w5 gr rr (.returned s9) Fw)
    case rest =>
     have HBc : Hid (Below gr w3 wc) := (HB.out.trans (Hb5.out.mono (Nat.le_of_lt hgl))).trans hcut.1
     have HBw : Hid (Below w.heap.size w wc) := Hb3.out.trans (HBc.out.mono Hgr.out)
     have hB4 := HB4.out.below HBc.out Hg4.out.2
     cases rr with
     | bad b =>
      have HK : Hid (Val.rowT s vl = .bad b) := Val.rowT_bad (HbadK.out b rfl)
      obtain ⟨_, hcut⟩ := hcut
      replace hcut : u9 = er.of b := by injection hcut
      obtain ⟨et, ev, he⟩ := Errs.is er b
      rw [he] at hcut
      subst hcut
      have He := Yq he
      clear he hgl hwl hlt hks hkf hb0 hkn
      go_wp2_with (first
       | (refine wpList_store_all rfl 27 _ _ rfl g4 zV rfl rfl zV hB4 infoV rfl zV_one ?_; (intro w6 hB6 hgr6; replace HBw := Yq (Below.grown HBw.out hgr6 HBw.out.size (fun _ e => by cases e; exact Hg4.out.1)))))
      rw [HK.out]
      refine bodyPost_ret (v := .tuple #[.agg zV.toArray, .iface et ev]) (results2_blk rfl _ _ g4 zV _ rfl rfl hB6 _ Tryz.underlying27 rfl infoV) rfl ⟨HBw.out, congrArg (fun z => Ending.returned (.tuple #[.agg zV.toArray, z])) He.out.symm⟩
     | ok p =>
      obtain ⟨l', o'⟩ := p
      obtain ⟨_, hcut, av', n', cap', ov', les', oes', HR'⟩ := hcut
      replace hcut : u9 = .nilIface := by injection hcut
      subst hcut
      have HI' := Yq (HokK.out l' o' rfl)
      replace HR' := Yq HR'
      clear hB4
      go_wp2_with fail
      go_roundw
      case rel => exact ⟨k + 1, l', o', av', n', cap', ov', les', oes', by omega, by go_num, HI', HR', HBc⟩
      case measure => simp [intOf]; omega
    have HST := Yq (fun (wx : World) (e : wx = w5.drew) => by subst e; exact HST0.out w5.drew Hb5.out.drew)
    refine wp_region_held_drew (S := fun _ => True) (by kernel_rfl) trivial (fun _ => ?_)
    refine wpAnyH_take (i := 0) (v := .pointer (some ⟨g8, 0, none⟩)) rfl (by kernel_rfl) (by kernel_rfl) (by kernel_rfl) (fun _ _ _ h => h) (.inl ⟨by rfl, fun w hw => by go_simp⟩) trivial ?_
    refine wpAnyH_take (i := 3) (v := .pointer (some ⟨gr, 0, none⟩)) rfl (by kernel_rfl) (by kernel_rfl) (by kernel_rfl) (fun _ _ _ h => h) (.inl ⟨by rfl, fun w hw => by go_simp⟩) trivial ?_
    refine wpAnyH_ready (rs := [1, 4]) (by kernel_rfl) (by simp) ?_
    refine AllReadyH.cons rfl (fun K hK => ?_) ?_
    ·go_simp
     refine hK.out _ _ trivial (fun _ => ?_)
     refine wpAnyH_ready (rs := [2, 4]) (by kernel_rfl) (by simp) ?_
     refine AllReadyH.cons rfl (fun K hK => ?_) ?_
     ·go_simp
      refine (of_any _ _).mono ?_
      rintro e wz ⟨rfl, rfl⟩
      refine hK.out _ _ trivial (fun _ => ?_)
      refine wpAnyH_ready (rs := [4]) (by kernel_rfl) (by simp) ?_
      refine AllReadyH.cons rfl (fun K hK => ?_) AllReadyH.nil
      rw [if_pos (by rfl)]
      refine wp_load_mid 87 _ rfl _ _ rfl _ _ r0 Tryz.underlying87 rfl (iC infoES HL30) ?_
      refine hK.out _ _ trivial (fun _ => ?_)
      refine wpAnyH_ready (rs := [5]) (by kernel_rfl) (by simp) ?_
      refine AllReadyH.cons rfl (fun K hK => ?_) AllReadyH.nil
      go_simp
      rw [run_fnOf, Oper.upon_enter]
      refine (HST.out _ rfl).mono ?_
      rintro e w6 hP
      obtain ⟨s9, rfl⟩ := hP.form
      refine hK.out _ _ trivial (fun _ => ?_)
      refine wpAnyH_take (i := 6) (v := s9) rfl (by kernel_rfl) (by kernel_rfl) (by kernel_rfl) (fun _ _ _ h => h) (.inl ⟨by rfl, fun w hw => by go_simp⟩) trivial ?_
      refine wpAnyH_done (by kernel_rfl) ?_ _
      have HP := Yq hP
      clear hP hK
      go_wp2_with fail
      go_meet
      exact ⟨((Below.refl gr w5).drew).trans HP.out.1, HP.out.2⟩
     ·refine AllReadyH.cons rfl (fun K hK => ?_) AllReadyH.nil
      rw [if_pos (by rfl)]
      refine wp_load_mid 87 _ rfl _ _ rfl _ _ r0 Tryz.underlying87 rfl (iC infoES HL30) ?_
      refine hK.out _ _ trivial (fun _ => ?_)
      refine wpAnyH_ready (rs := [2]) (by kernel_rfl) (by simp) ?_
      refine AllReadyH.cons rfl (fun K hK => ?_) AllReadyH.nil
      go_simp
      refine (of_any _ _).mono ?_
      rintro e wz ⟨rfl, rfl⟩
      refine hK.out _ _ trivial (fun _ => ?_)
      refine wpAnyH_ready (rs := [5]) (by kernel_rfl) (by simp) ?_
      refine AllReadyH.cons rfl (fun K hK => ?_) AllReadyH.nil
      go_simp
      rw [run_fnOf, Oper.upon_enter]
      refine (HST.out _ rfl).mono ?_
      rintro e w6 hP
      obtain ⟨s9, rfl⟩ := hP.form
      refine hK.out _ _ trivial (fun _ => ?_)
      refine wpAnyH_take (i := 6) (v := s9) rfl (by kernel_rfl) (by kernel_rfl) (by kernel_rfl) (fun _ _ _ h => h) (.inl ⟨by rfl, fun w hw => by go_simp⟩) trivial ?_
      refine wpAnyH_done (by kernel_rfl) ?_ _
      have HP := Yq hP
      clear hP hK
      go_wp2_with fail
      go_meet
      exact ⟨((Below.refl gr w5).drew).trans HP.out.1, HP.out.2⟩
    ·refine AllReadyH.cons rfl (fun K hK => ?_) AllReadyH.nil
     rw [if_pos (by rfl)]
     refine wp_load_mid 87 _ rfl _ _ rfl _ _ r0 Tryz.underlying87 rfl (iC infoES HL30) ?_
     refine hK.out _ _ trivial (fun _ => ?_)
     refine wpAnyH_ready (rs := [1]) (by kernel_rfl) (by simp) ?_
     refine AllReadyH.cons rfl (fun K hK => ?_) AllReadyH.nil
     go_simp
     refine hK.out _ _ trivial (fun _ => ?_)
     refine wpAnyH_ready (rs := [2]) (by kernel_rfl) (by simp) ?_
     refine AllReadyH.cons rfl (fun K hK => ?_) AllReadyH.nil
     go_simp
     refine (of_any _ _).mono ?_
     rintro e wz ⟨rfl, rfl⟩
     refine hK.out _ _ trivial (fun _ => ?_)
     refine wpAnyH_ready (rs := [5]) (by kernel_rfl) (by simp) ?_
     refine AllReadyH.cons rfl (fun K hK => ?_) AllReadyH.nil
     go_simp
     rw [run_fnOf, Oper.upon_enter]
     refine (HST.out _ rfl).mono ?_
     rintro e w6 hP
     obtain ⟨s9, rfl⟩ := hP.form
     refine hK.out _ _ trivial (fun _ => ?_)
     refine wpAnyH_take (i := 6) (v := s9) rfl (by kernel_rfl) (by kernel_rfl) (by kernel_rfl) (fun _ _ _ h => h) (.inl ⟨by rfl, fun w hw => by go_simp⟩) trivial ?_
     refine wpAnyH_done (by kernel_rfl) ?_ _
     have HP := Yq hP
     clear hP hK
     go_wp2_with fail
     go_meet
     exact ⟨((Below.refl gr w5).drew).trans HP.out.1, HP.out.2⟩
   ·obtain rfl : k = ns := by omega
    have Hfin : Hid (adoS s vl [] = .ok (l, oo)) := RowInv.fin (v := .mk vk vn vt vfs vr vl vps) (by rw [Hm.out]; exact HI.out)
    have hB4 := HB4.out.below HB.out Hg4.out.2
    have q0 := HR.out.blk.cell (o := 0) rfl
    have q1 := HR.out.blk.cell (o := 1) rfl
    obtain ⟨_, _, e, _⟩ := HR.out.left.len
    cases e
    have hll := HR.out.lr.len
    obtain ⟨a4, c4, eo, _⟩ := Row.of_owns HR.out.own
    subst eo
    cases l with
    | cons y l' =>
     have HK : Hid (Val.rowT s vl = .bad 13) := Val.rowT_left Hfin.out (by simp)
     have gl : decide (0 < les.length) = true := decide_eq_true (by rw [hll]; simp)
     have hE := (HE.out _ Hbw.out).c
     obtain ⟨⟨z0, z1, z2, z3, z4, z5, z6⟩, f0, f1, f2, f3, f4, f5, f6⟩ := hB4.zero
     have n1 : ¬ g4 = 12 := fun e => absurd Hg4.out.1 (by have := HG.out.c; omega)
     have n2 : ¬ 12 = g4 := fun e => n1 e.symm
     have HB4' := Yq hB4
     clear hB4 hll hlt hkn hk
     go_wp2_with fail
     go_region
     all_goals
      go_wp2_with fail
      rw [HK.out]
      refine bodyPost_ret (v := .tuple #[.agg zV.toArray, er.c]) (results2_blk rfl _ _ g4 zV _ rfl rfl ?_ _ Tryz.underlying27 rfl infoV) rfl ⟨?_, rfl⟩
      ·exact blk_zeroed HB4'.out
      ·exact below_zeroed Hbw.out Hg4.out.1
    | nil =>
     have HK : Hid (Val.rowT s vl = .ok (mkL oo)) := Val.rowT_ok Hfin.out
     have gl : decide (0 < les.length) = false := decide_eq_false (by rw [hll]; simp)
     cases oo with
     | nil =>
      clear hll hlt hkn hk
      go_wp2_with (first
       | (refine wpList_store_all rfl 27 _ _ rfl g4 zV rfl rfl zV hB4 infoV rfl zV_one ?_; (intro w6 hB6 hgr6; replace Hbw := Yq (Below.grown Hbw.out hgr6 Hbw.out.size (fun _ e => by cases e; exact Hg4.out.1)))))
      rw [HK.out]
      exact bodyPost_ret (v := .tuple #[.agg zV.toArray, .nilIface]) (results2_blk rfl _ _ g4 zV _ rfl rfl hB6 _ Tryz.underlying27 rfl infoV) rfl ⟨Hbw.out, zV, rfl, v0_any _⟩
     | cons y o' =>
      have hm0 : 0 < (y :: o').length := by simp
      have ho1 : (mkL (y :: o')) = .mk 4 0 ByteArray.empty [] ByteArray.empty (y :: o') [] := rfl
      have HO1 := Yq ho1
      have HX : Hid (FlatC 7 (fragE wr (some g4 :: F)) (.slice a4 (y :: o').length c4) oes ∧ LsR (fragE wr (some g4 :: F)) (y :: o') oes) :=
       ⟨FlatC.of_owns HR.out.own HR.out.or.len (fun e he => by obtain ⟨i, hi, rfl⟩ := List.getElem_of_mem he; exact (HR.out.or.at (by rw [← HR.out.or.len]; exact hi) hi).len) (by
        cases ho : (Value.slice a4 (y :: o').length c4).ownBlock with
        | none => exact .inl rfl
        | some b =>
         right
         intro hm
         have h1 := (HR.out.own.lt b ho).1
         rcases List.mem_cons.1 hm with hm | hm
         ·cases hm; have := Hg4.out.2; omega
         ·have := HF.out b hm; have := Hgr.out; omega),
        HR.out.or.mono (subE _ (fun k hk => by simp only [List.mem_cons] at hk ⊢; rcases hk with hk | hk; exact .inr (.inr (.inl hk)); exact .inr (.inr (.inr hk))))⟩
      generalize hL : (y :: o').length = m at *
      have go : decide (m = 0) = false := decide_eq_false (by omega)
      have go2 : decide ((m : Int) = 0) = false := decide_eq_false (by omega)
      have go3 : ((m : Int) == 0) = false := by rw [beq_eq_false_iff_ne]; omega
      have go4 : (m == 0) = false := by rw [beq_eq_false_iff_ne]; omega
      clear hll hlt hkn hk ho1 hL hm0
      go_wp2_with (first
       | (refine wpList_store_all rfl 27 _ _ rfl g4 [.int .i64 4, .int .u64 0, .string ⟨#[]⟩, .slice none 0 0, .string ⟨#[]⟩, .slice a4 m c4, .slice none 0 0] rfl rfl zV hB4 infoV rfl (by simp [Value.oneCell']) ?_; (intro w6 hB6 hgr6; have HbF := Yq hgr6; replace Hbw := Yq (Below.grown Hbw.out hgr6 Hbw.out.size (fun _ e => by cases e; exact Hg4.out.1)))))
      rw [HK.out]
      refine bodyPost_ret (v := .tuple #[.agg [.int .i64 4, .int .u64 0, .string ⟨#[]⟩, .slice none 0 0, .string ⟨#[]⟩, .slice a4 m c4, .slice none 0 0].toArray, .nilIface]) (results2_blk rfl _ _ g4 _ _ rfl rfl hB6 _ Tryz.underlying27 rfl infoV) rfl ⟨Hbw.out, _, rfl, ?_⟩
      rw [HO1.out, VR]
      have hle : FLe (fragE wr (some g4 :: F)) (fragE w6 F) := grownE HbF.out (.inr (by simp)) (fun k hk => .inl (by simp [hk]))
      exact ⟨_, _, _, [], oes, [], rfl, ⟨by decide, by decide⟩, ⟨FlatC.nil 8 _, HX.out.1.mono hle, FlatC.nil 14 _⟩, by rw [FsR], HX.out.2.mono hle, by rw [PsR]⟩
open Val (V E cmp right eright esm esmF esmK v0 Res ado adoF adoK get find withV putV vmx vmxL esz eszF eszK partB stepB allF allK mkL KI KP KeysOf headKind setRest)
def Val.intoT (f : List (Int × E)) (r : Bool) (ro rn : ByteArray) (v : V) : Res V := match adoF f v with
 | .bad b => .bad b
 | .ok w => if r = true then (if w.rest = ro then .ok (setRest w rn) else .bad 13) else .ok w
def IntoInv (f : List (Int × E)) (v : V) (k : Nat) (y : V) : Prop := adoF f v = adoF (f.drop k) y ∧ right y = true ∧ y.kind = 3 ∧ vmx y + eszF (f.drop k) ≤ 90000
theorem IntoInv.start {f : List (Int × E)} {v : V} (hr : right v = true) (hk : v.kind = 3) (hb : vmx v + eszF f ≤ 90000) : IntoInv f v 0 v := ⟨by simp, hr, hk, by simpa using hb⟩
theorem IntoInv.drop {f : List (Int × E)} {v y : V} {k : Nat} (h : IntoInv f v k y) (hk : k < f.length) : adoF f v = match ado f[k].2 (get y f[k].1) with
  | .bad b => .bad b
  | .ok x => adoF (f.drop (k + 1)) (withV y f[k].1 x) := by
 rw [h.1, List.drop_eq_getElem_cons hk]
 generalize f[k] = q
 obtain ⟨a, b⟩ := q
 rw [adoF]
 simp only
 cases ado b (get y a) <;> rfl
theorem IntoInv.bad {f : List (Int × E)} {v y : V} {k b : Nat} (h : IntoInv f v k y) (hk : k < f.length) (hr : ado f[k].2 (get y f[k].1) = .bad b) (r : Bool) (ro rn : ByteArray) : Val.intoT f r ro rn v = .bad b := by
 unfold Val.intoT
 rw [h.drop hk, hr]
theorem IntoInv.step {f : List (Int × E)} {v y x : V} {k : Nat} (h : IntoInv f v k y) (hk : k < f.length) (hall : allF f) (hr : ado f[k].2 (get y f[k].1) = .ok x) : IntoInv f v (k + 1) (withV y f[k].1 x) := by
 have ha := hall _ (List.getElem_mem hk)
 have hx := Val.ado_right _ _ _ ha.2 (Val.right_get h.2.1 h.2.2.1 ha.1) hr
 refine ⟨by rw [h.drop hk, hr], Val.right_with h.2.1 h.2.2.1 ha.1 hx, Val.kind_with h.2.2.1, ?_⟩
 have h1 := h.2.2.2
 rw [List.drop_eq_getElem_cons hk] at h1
 have h2 := Val.ado_vmx _ _ _ hr
 have h3 := Val.get_vmx y f[k].1
 have h4 := Val.with_vmx y f[k].1 x
 generalize f[k] = q at *
 obtain ⟨a, b⟩ := q
 rw [eszF] at h1
 simp only at h2 h3 h4 ⊢
 omega
theorem IntoInv.sizes {f : List (Int × E)} {v y : V} {k : Nat} (h : IntoInv f v k y) (hk : k < f.length) : vmx (get y f[k].1) + esz f[k].2 ≤ 90000 ∧ y.fields.length < 100000 := by
 have h1 := h.2.2.2
 rw [List.drop_eq_getElem_cons hk] at h1
 have h3 := Val.get_vmx y f[k].1
 have h4 := Val.vmx_parts y
 generalize f[k] = q at *
 obtain ⟨a, b⟩ := q
 rw [eszF] at h1
 simp only at h3 ⊢
 omega
theorem IntoInv.fin {f : List (Int × E)} {v y : V} (h : IntoInv f v f.length y) : adoF f v = .ok y := by
 rw [h.1, List.drop_length, adoF]
def BookInv (f : List (V × E)) (v : V) (k : Nat) (y : V) : Prop := adoK f v = adoK (f.drop k) y ∧ right y = true ∧ (y.kind = 5 ∨ y.kind = 0) ∧ vmx y + eszK (f.drop k) ≤ 90000
theorem BookInv.start {f : List (V × E)} {v : V} (hr : right v = true) (hk : v.kind = 5 ∨ v.kind = 0) (hb : vmx v + eszK f ≤ 90000) : BookInv f v 0 v := ⟨by simp, hr, hk, by simpa using hb⟩
def Val.keyR (q : V × E) (y : V) : Res V := if headKind y q.1 then .bad 13 else match ado q.2 (find y q.1) with
  | .bad b => .bad b
  | .ok x => if x.kind ≠ 0 ∧ ¬ (1 ≤ x.kind ∧ x.kind ≤ 3) then .bad 12 else .ok (putV y q.1 x)
theorem BookInv.drop {f : List (V × E)} {v y : V} {k : Nat} (h : BookInv f v k y) (hk : k < f.length) : adoK f v = match Val.keyR f[k] y with
  | .bad b => .bad b
  | .ok x => adoK (f.drop (k + 1)) x := by
 rw [h.1, List.drop_eq_getElem_cons hk]
 generalize f[k] = q
 obtain ⟨a, b⟩ := q
 rw [adoK]
 unfold Val.keyR
 simp only
 split
 ·rfl
 ·cases ado b (find y a) with
  | bad n => rfl
  | ok x =>
   simp only
   split <;> rfl
theorem BookInv.bad {f : List (V × E)} {v y : V} {k b : Nat} (h : BookInv f v k y) (hk : k < f.length) (hr : Val.keyR f[k] y = .bad b) : adoK f v = .bad b := by
 rw [h.drop hk, hr]
theorem part_none {x : V} (hy : right x = true) (hk : ¬ (x.kind ≠ 0 ∧ ¬ (1 ≤ x.kind ∧ x.kind ≤ 3))) : x.kind = 0 ∨ partB x = true := by
 by_cases h0 : x.kind = 0
 ·exact .inl h0
 ·refine .inr (Val.part_of ?_ hy)
  by_cases h3 : 1 ≤ x.kind ∧ x.kind ≤ 3
  ·exact h3
  ·exact absurd ⟨h0, h3⟩ hk
theorem BookInv.step {f : List (V × E)} {v y z : V} {k : Nat} (h : BookInv f v k y) (hk : k < f.length) (hall : allK f) (hr : Val.keyR f[k] y = .ok z) : BookInv f v (k + 1) z := by
 have ha := hall _ (List.getElem_mem hk)
 have hd := h.drop hk
 rw [hr] at hd
 have h1 := h.2.2.2
 rw [List.drop_eq_getElem_cons hk] at h1
 unfold Val.keyR at hr
 split at hr
 ·cases hr
 rename_i hh
 have hO := Val.kinds_of h.2.1 h.2.2.1 hh
 cases hE : ado f[k].2 (find y f[k].1) with
 | bad b => rw [hE] at hr; cases hr
 | ok x =>
  rw [hE] at hr
  simp only at hr
  split at hr
  ·cases hr
  rename_i hk2
  cases hr
  have hx := Val.ado_right _ _ _ ha.2 (Val.right_find h.2.1 hO ha.1) hE
  have hp := part_none hx hk2
  refine ⟨hd, Val.right_put hO ha.1 hp, (Val.keys_put hO ha.1 hp).1, ?_⟩
  have h2 := Val.ado_vmx _ _ _ hE
  have h3 := Val.find_vmx y f[k].1
  have h4 := Val.put_vmx y f[k].1 x
  generalize f[k] = q at *
  obtain ⟨a, b⟩ := q
  rw [eszK] at h1
  simp only at h2 h3 h4 ⊢
  omega
theorem BookInv.sizes {f : List (V × E)} {v y : V} {k : Nat} (h : BookInv f v k y) (hk : k < f.length) : vmx (find y f[k].1) + esz f[k].2 ≤ 90000 ∧ y.pairs.length < 100000 := by
 have h1 := h.2.2.2
 rw [List.drop_eq_getElem_cons hk] at h1
 have h3 := Val.find_vmx y f[k].1
 have h4 := Val.vmx_parts y
 generalize f[k] = q at *
 obtain ⟨a, b⟩ := q
 rw [eszK] at h1
 simp only at h3 ⊢
 omega
theorem BookInv.fin {f : List (V × E)} {v y : V} (h : BookInv f v f.length y) : adoK f v = .ok y := by
 rw [h.1, List.drop_length, adoK]
end Go.Proofs.YtebekgdjknenlaaGreatDoor
