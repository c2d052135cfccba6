/- apply.book, walked. -/
import Derived.Test.YtebekgdjknenlaaGreatDoorDInto
set_option maxRecDepth 100000
set_option maxHeartbeats 4000000
set_option linter.unusedVariables false
set_option linter.unusedSimpArgs false
namespace Go.Proofs.YtebekgdjknenlaaGreatDoor
open Go.RowKit
open Val (V E cmp right eright esm esmF esmK v0 Res ado adoF adoK get find withV putV vmx vmxL esz eszF eszK partB stepB allF allK mkL KI KP KeysOf headKind setRest)
theorem VR.ps {h : Frag} {y : V} {yc : List Value} (hv : VR h y yc) : ∃ a cap pe, yc[6]? = some (.slice a pe.length cap) ∧ FlatC 14 h (.slice a pe.length cap) pe ∧ PsR h y.pairs pe := by
 cases y
 rw [VR] at hv
 obtain ⟨fv, lv, pv, fe, le, pe, rfl, _, ⟨h1, h2, h3⟩, _, _, h6⟩ := hv
 obtain ⟨a3, c3, rfl, _⟩ := h3.len
 exact ⟨a3, c3, pe, rfl, h3, h6⟩
theorem headKind_of {y key : V} {p : V × V} (h : y.pairs.head? = some p) : headKind y key ↔ p.1.kind ≠ key.kind := by
 constructor
 ·rintro ⟨e, h1, h2⟩
  rw [h] at h1
  cases h1; exact h2
 ·intro h2; exact ⟨p, h, h2⟩
theorem headKind_nil {y key : V} (h : y.pairs = []) : ¬ headKind y key := by
 rintro ⟨e, h1, _⟩
 rw [h] at h1; cases h1
theorem sizePs (w : World) : (Go.sizeOf (Tryz.prog.elem 25)).run Tryz.prog w = .ok 14 w := by kernel_rfl
theorem keyR_head {q : V × E} {y : V} (h : headKind y q.1) : Val.keyR q y = .bad 13 := by unfold Val.keyR; exact if_pos h
theorem keyR_bad {q : V × E} {y : V} {b : Nat} (h : ¬ headKind y q.1) (h2 : ado q.2 (find y q.1) = .bad b) : Val.keyR q y = .bad b := by unfold Val.keyR; rw [if_neg h, h2]
theorem keyR_kind {q : V × E} {y z : V} (h : ¬ headKind y q.1) (h2 : ado q.2 (find y q.1) = .ok z) (h3 : z.kind ≠ 0 ∧ ¬ (1 ≤ z.kind ∧ z.kind ≤ 3)) : Val.keyR q y = .bad 12 := by unfold Val.keyR; rw [if_neg h, h2]; exact if_pos h3
theorem keyR_ok {q : V × E} {y z : V} (h : ¬ headKind y q.1) (h2 : ado q.2 (find y q.1) = .ok z) (h3 : ¬ (z.kind ≠ 0 ∧ ¬ (1 ≤ z.kind ∧ z.kind ≤ 3))) : Val.keyR q y = .ok (putV y q.1 z) := by unfold Val.keyR; rw [if_neg h, h2]; exact if_neg h3
theorem book_bad (er : Errs) (F : List (Option Nat)) (x : E) (v : V) (xc vc : List Value) (w : World) (he : ErrsAt er w) (hv : VR (fragE w F) v vc) (hk : ¬ (v.kind = 5 ∨ v.kind = 0)) :
  Calls Tryz.prog 41 #[.agg xc.toArray, .agg vc.toArray] w (RetR er F w (.bad 13)) := by
 have HE := Yq (fun (wx : World) (hb : Below w.heap.size w wx) => (he.keep hb).c)
 have Hlt := Yq (World.block_lt_of_cell? w _ he.c)
 have HV := Yq (fun (w2 : World) (g : Nat) (hB : Blk w2 g vc) => hB.cell hv.k0)
 obtain ⟨hk1, hk2⟩ := not_or.1 hk
 have hd1 : decide (v.kind = 5) = false := decide_eq_false hk1
 have hd2 : decide (v.kind = 0) = false := decide_eq_false hk2
 clear hk
 clear he hv
 generalize v.kind = kd at *
 go_enter Tryz.func41, Tryz.ntmps41
 go_wp2_with (first
  | (refine wpList_box_lay rfl 32 _ rfl _ rfl ?_; (intro w0 g0 hg0 hB0 hb0))
  | (refine wpList_box_lay rfl 27 _ rfl _ rfl ?_; (intro w1 g1 hg1 hB1 hb1; replace hb0 := hb0.trans (hb1.mono hb0.size)))
  | (refine wpList_alloc_lay rfl 27 rfl zV zeroV ?_; (intro w2 g2 hg2 hB2 hb2; replace hB1 := hB1.below hb2 hB1.lt; replace hg2 := Nat.le_trans hb0.size hg2; replace hb0 := hb0.trans (hb2.mono hb0.size); clear hb1 hb2; have q0 := HV.out _ _ hB1)))
 have hE := HE.out _ hb0
 obtain ⟨⟨z0, z1, z2, z3, z4, z5, z6⟩, f0, f1, f2, f3, f4, f5, f6⟩ := hB2.zero
 have n1 : ¬ g2 = 12 := fun e => absurd hg2 (by have := Hlt.out; omega)
 have n2 : ¬ 12 = g2 := fun e => n1 e.symm
 clear hg0 hg1
 go_region
 all_goals
  go_wp2_with fail
  refine bodyPost_ret (v := .tuple #[.agg zV.toArray, er.c]) (results2_blk rfl _ _ g2 zV _ rfl rfl ?_ _ Tryz.underlying27 rfl infoV) rfl ⟨?_, rfl⟩
  ·exact blk_zeroed hB2
  ·exact below_zeroed hb0 hg2
theorem book_good (er : Errs) (N : Nat) (ih : DoAt er N) (F : List (Option Nat)) (x : E) (v : V) (xc vc : List Value) (w : World) (hF : ∀ k, some k ∈ F → k < w.heap.size) (hs : ∀ s ∈ x.keys, SizeOf.sizeOf s.2 < N) (hst : allK x.keys) (hsm : esmK x.keys)
  (hvr : right v = true) (hbd : vmx v + eszK x.keys ≤ 90000) (he : ErrsAt er w) (hx : ER (fragE w F) x xc) (hv : VR (fragE w F) v vc) (hk : v.kind = 5 ∨ v.kind = 0) :
  Calls Tryz.prog 41 #[.agg xc.toArray, .agg vc.toArray] w (RetR er F w (adoK x.keys v)) := by
 have HE := Yq (fun (wx : World) (hb : Below w.heap.size w wx) => (he.keep hb))
 have HG := Yq he.lt
 have HF := Yq hF
 have HI0 := Yq (BookInv.start hvr hk hbd)
 have Hv := Yq hv
 obtain ⟨kd, o, nw, fs, r, ro, rn, s, ks⟩ := x
 simp only [Val.E.keys] at *
 rw [ER] at hx
 obtain ⟨oc, nc, fv, sv, kv, fe, se, ke, rfl, hsz, ⟨h3, h4⟩, ⟨h5, h6, h7⟩, h8, h9, h10⟩ := hx
 obtain ⟨a1, c1, rfl, _⟩ := h5.len
 obtain ⟨a2, c2, rfl, _⟩ := h6.len
 obtain ⟨a3, c3, rfl, hc1, hc2, hcn⟩ := h7.len
 have HA := Yq (fun (w2 : World) (g : Nat) (hB : Blk w2 g (.int .i64 kd :: (oc ++ (nc ++ [.slice a1 fe.length c1, .bool r, .string ro, .string rn, .slice a2 se.length c2, .slice a3 ke.length c3])))) => (EdAt.of h3.len h4.len hB))
 have HV := Yq (fun (w2 : World) (g : Nat) (hB : Blk w2 g vc) => (hB.cell (o := 0) hv.k0 : w2.cell? ⟨g, 0, none⟩ = some (.int .i64 v.kind)))
 have H6 := Yq h7; have H9 := Yq h10
 have HS := Yq hs; have HST := Yq hst; have HM := Yq hsm
 have hlen := h10.len
 obtain ⟨ns, hn⟩ : ∃ ns, ns = ke.length := ⟨_, rfl⟩
 rw [← hn] at HA H6 hc1 hlen ⊢
 have Hn := Yq hn.symm; have Hm := Yq hlen.symm; clear hn hlen
 clear h3 h4 h5 h6 h7 h8 h9 h10 hs hst hsm hvr hbd he hF hsz hv
 have hns : ns ≤ 9223372036854775807 := by have := hc2; unfold maxLen at this; omega
 generalize hxc : (Value.int .i64 kd :: (oc ++ (nc ++ [.slice a1 fe.length c1, .bool r, .string ro, .string rn, .slice a2 se.length c2, .slice a3 ns c3]))) = xc at *
 clear hxc
 generalize v.kind = vk at *
 rcases hk with rfl | rfl
 all_goals
  go_enter Tryz.func41, Tryz.ntmps41
  go_wp2_with (first
   | (refine wpList_box_lay rfl 32 _ rfl _ rfl ?_; (intro w0 g0 hg0 hB0 hb0))
   | (refine wpList_box_lay rfl 27 _ rfl _ rfl ?_; (intro w1 g1 hg1 hB1 hb1; have hz1 := hB0.lt; replace hB0 := hB0.below hb1 hB0.lt; replace hg1 := Nat.lt_of_lt_of_le hz1 hg1; replace hb0 := hb0.trans (hb1.mono hb0.size)))
   | (refine wpList_alloc_lay rfl 27 rfl zV zeroV ?_; (intro w2 g4 hg4 hB4 hb2; have hz4 := hB1.lt; replace hB0 := hB0.below hb2 hB0.lt; replace hB1 := hB1.below hb2 hB1.lt; replace hg4 := Nat.lt_of_lt_of_le hz4 hg4; replace hb0 := hb0.trans (hb2.mono hb0.size); clear hb1 hb2; have q0 := HV.out _ _ hB1; have q20 := (HA.out _ _ hB0).c20)))
  have Hg1 : Hid (w.heap.size ≤ g1 ∧ g0 < g1 ∧ g1 < g4) := ⟨Nat.le_trans hg0 (Nat.le_of_lt hg1), hg1, hg4⟩
  have HB0 := Yq hB0
  have Hb2 := Yq hb0
  have Hrow : Hid (VR (fragE w2 (some g1 :: some g4 :: F)) v vc ∧ Blk w2 g1 vc ∧ Blk w2 g4 zV) :=
   ⟨Hv.out.mono (belowE Hb2.out (fun k hk => by
    simp only [List.mem_cons] at hk
    rcases hk with hk | hk | hk
    ·right; cases hk; exact Hg1.out.1
    ·right; cases hk; have := Hg1.out; omega
    ·exact .inl hk)), hB1, hB4⟩
  clear hB0 hB1 hB4 q0 hg0 hg1 hg4 hz1 hz4 hb0
  go_wp2_with fail
  clear q20
  go_loopw [23] (fun i wr => ∃ (k : Nat) (y : V) (yc : List Value), k ≤ ns ∧ i = .int .i64 k ∧ Hid (BookInv ks v k y) ∧ Hid (VR (fragE wr (some g1 :: some g4 :: F)) y yc ∧ Blk wr g1 yc ∧ Blk wr g4 zV) ∧ Hid (Below g1 w2 wr)) (fun i _ => ns - (intOf i).toNat)
  case atStart => exact ⟨0, v, vc, Nat.zero_le _, rfl, HI0, Hrow, Below.refl _ _⟩
  case round =>
   obtain ⟨k, y, yc, hkn, rfl, HI, HR, HB⟩ := hrel
   have Hbw : Hid (Below w.heap.size w wr) := Hb2.out.trans (HB.out.mono Hg1.out.1)
   by_cases hlt : k < ns
   ·have hks : k < ke.length := by rw [Hn.out]; exact hlt
    have hkf : k < ks.length := by rw [Hm.out]; exact hlt
    obtain ⟨b0, o0, hb0, hidx, hcell⟩ := FlatC.at (n := ns) (cap := c3) (a := a3) (H6.out.mono (fragE_le _ _)) (by decide) (i := k) hks Tryz.underlying30 sizeEK
    obtain ⟨kc, exc, hx, rk, rx⟩ := H9.out.at hkf hks
    have hr : wr.rangeAt b0 o0 ke[k] := range_below hcell Hbw.out hb0
    rw [hx] at hr
    have H30 := key28 rk.shape rx.shape
    have HL30 := Yq H30.1
    have H1 := Yq H30.2
    have HK0 := Yq rk.k0
    have HLk := Yq rk.len
    have hgl : g1 < wr.heap.size := HR.out.2.1.lt
    have hwl : w.heap.size ≤ wr.heap.size := Hbw.out.size
    have HBs := Yq (fun (w2 : World) (g : Nat) (hB : Blk w2 g (kc ++ exc)) => And.intro (show w2.rangeAt g 0 kc from hB.range (p := []) (q := kc) (r := exc) (by simp) rfl) (show w2.rangeAt g 7 exc from hB.range (p := kc) (q := exc) (r := []) (by simp) HLk.out))
    have HbadK := Yq (fun b (hR : Val.keyR ks[k] y = .bad b) => HI.out.bad hkf hR)
    have HokK := Yq (fun z (hR : Val.keyR ks[k] y = .ok z) => HI.out.step hkf HST.out hR)
    have ha := HST.out _ (List.getElem_mem hkf)
    have HMo := Yq (fun (hh : ¬ headKind y ks[k].1) => And.intro (Val.mono_pairs (Val.kinds_of HI.out.2.1 HI.out.2.2.1 hh) ha.1) (Val.right_find HI.out.2.1 (Val.kinds_of HI.out.2.1 HI.out.2.2.1 hh) ha.1))
    have HRg := Yq (And.intro ha.2 (And.intro (HI.out.sizes hkf) (And.intro (HS.out _ (List.getElem_mem hkf)) (Val.esmK_at HM.out _ (List.getElem_mem hkf)))))
    have HX : Hid (ER (fragE w F) ks[k].2 exc) := rx
    have HKV : Hid (VR (fragE w F) ks[k].1 kc) := rk
    clear hcell hx rx rk H30 ha
    have HLx := Yq HX.out.shape.len
    have HLy := Yq HR.out.1.len
    generalize ks[k] = q at *
    obtain ⟨key, ex⟩ := q
    simp only at *
    go_wp2_with (first
     | (refine wpList_load_seg rfl 78 _ rfl _ _ rfl _ _ (by assumption) Tryz.underlying78 rfl (iC infoEK HL30) ?_)
     | (refine wpList_alloc_lay rfl 78 rfl (zV ++ zE) zeroEK ?_; (intro w4 g7 hg7 hB7 hb4; clear hr))
     | (refine wpList_store_all rfl 78 _ _ rfl _ _ rfl rfl (zV ++ zE) (by assumption) ?_ ?_ ?_ ?_; (· exact iC infoEK HL30); (· exact HL30.out); (· exact H1.out); (intro wa hB9 hgr5; have hb5 := Below.grown hb4 hgr5 hb4.size (fun _ e => by cases e; exact hg7); clear hb4 hgr5 hB7)))
    have Hba := Yq hb5
    have HB7a := Yq hB9
    have Hg7 : Hid (wr.heap.size ≤ g7) := hg7
    have HBBa := Yq (And.intro (HR.out.2.1.below Hba.out hgl) (HR.out.2.2.below Hba.out HR.out.2.2.lt))
    have HV5a : Hid (VR (fragE wa (some g1 :: some g4 :: F)) y yc) := HR.out.1.mono (belowE Hba.out (fun _ h => .inl h))
    clear hb5 hidx hB9 hg7 hks hkf
    go_wp2_with fail
    go_simp
    go_cut [42] from 24 to 76 (fun s42 Fw => s42 = .bool (decide (headKind y key)) ∧ Below wa.heap.size wa Fw)
    case rest =>
     obtain ⟨h42, hbq⟩ := hcut
     obtain ⟨w5, rfl⟩ : ∃ z, z = wc := ⟨wc, rfl⟩
     subst h42
     have Hb5 : Hid (Below wr.heap.size wr w5) := Hba.out.trans (hbq.mono Hba.out.size)
     have hB7 := HB7a.out.below hbq HB7a.out.lt
     have HB7 := Yq hB7
     obtain ⟨q0, q1⟩ := HBs.out _ _ hB7
     have hg7l := hB7.lt
     have hB1 := HBBa.out.1.below hbq HBBa.out.1.lt
     have hB4 := HBBa.out.2.below hbq HBBa.out.2.lt
     have q3 := hB1.whole
     have hg1l : g1 < w5.heap.size := hB1.lt
     have HBB := Yq (And.intro hB1 hB4)
     have Hbw5 : Hid (Below w.heap.size w w5) := Hbw.out.trans (Hb5.out.mono hwl)
     have hg4w : w.heap.size ≤ g4 := by have := Hg1.out; omega
     by_cases hh : headKind y key
     ·have HK : Hid (adoK ks v = .bad 13) := HbadK.out 13 (keyR_head hh)
      rw [decide_eq_true hh]
      have hE := (HE.out _ Hbw5.out).c
      obtain ⟨⟨z0, z1, z2, z3, z4, z5, z6⟩, f0, f1, f2, f3, f4, f5, f6⟩ := hB4.zero
      have n1 : ¬ g4 = 12 := fun e => absurd hg4w (by have := HG.out.c; omega)
      have n2 : ¬ 12 = g4 := fun e => n1 e.symm
      clear hh q0 q1 q3 hB7 hB1 hB4 hbq hlt hkn hb0
      go_wp2_with fail
      go_region
      all_goals
       go_wp2_with fail
       rw [HK.out]
       refine bodyPost_ret (v := .tuple #[.agg zV.toArray, er.c]) (results2_blk rfl _ _ g4 zV _ rfl rfl ?_ _ Tryz.underlying27 rfl infoV) rfl ⟨?_, rfl⟩
       ·exact blk_zeroed HBB.out.2
       ·exact below_zeroed Hbw5.out hg4w
     ·rw [decide_eq_false hh]
      have HH : Hid (¬ headKind y key) := hh
      have HF5 : Hid (∀ k, some k ∈ some g1 :: some g4 :: F → k < w5.heap.size) := fun k hk => by
       simp only [List.mem_cons] at hk
       rcases hk with hk | hk | hk
       ·cases hk; exact hg1l
       ·cases hk; exact HBB.out.2.lt
       ·exact Nat.lt_of_lt_of_le (HF.out k hk) Hbw5.out.size
      have HV5 : Hid (VR (fragE w5 (some g1 :: some g4 :: F)) y yc) := HR.out.1.mono (belowE Hb5.out (fun _ h => .inl h))
      have hle5 : FLe (fragE w F) (fragE w5 (some g1 :: some g4 :: F)) := belowE Hbw5.out (fun k hk => by
       simp only [List.mem_cons] at hk
       rcases hk with hk | hk | hk
       ·right; cases hk; exact Hg1.out.1
       ·right; cases hk; exact hg4w
       ·exact .inl hk)
      have HX5 : Hid (ER (fragE w5 (some g1 :: some g4 :: F)) ex exc) := HX.out.mono hle5
      have HK5 : Hid (VR (fragE w5 (some g1 :: some g4 :: F)) key kc) := HKV.out.mono hle5
      have HGet : Hid (∀ (E : List (Option Nat)) (wx : World), (∀ k, some k ∈ E → k < wx.heap.size) → FLe (fragE w5 (some g1 :: some g4 :: F)) (fragE wx E) → Calls Tryz.prog 74 #[.agg yc.toArray, .agg kc.toArray] wx (RetV E wx (find y key))) := fun E wx hE hle =>
       find_any y key yc kc wx E hE (HV5.out.mono hle) ((HK5.out.mono hle).mono (fragE_le _ _)) (HMo.out HH.out).1 (Nat.lt_trans HRg.out.2.1.2 (by decide))
      have HDo : Hid (∀ (E : List (Option Nat)) (wx : World) (gc : List Value), (∀ k, some k ∈ E → k < wx.heap.size) → Below w5.heap.size w5 wx → FLe (fragE w5 (some g1 :: some g4 :: F)) (fragE wx E) → VR (fragE wx E) (find y key) gc → Calls Tryz.prog 19 #[.agg exc.toArray, .agg gc.toArray] wx (RetR er E wx (ado ex (find y key)))) := fun E wx gc hE hb hle hv =>
       ih E ex (find y key) exc gc wx hE HRg.out.2.2.1 HRg.out.1 (HMo.out HH.out).2 HRg.out.2.2.2 HRg.out.2.1.1 (HE.out _ (Hbw5.out.trans (hb.mono Hbw5.out.size))) (HX5.out.mono hle) hv
      clear hh hB7 hB1 hB4 hbq hb0 hle5
      go_wp2_with fail
      go_simp
      go_cut [8, 9] from 24 to 76 (fun s8 s9 Fw => ChRel er (some g1 :: some g4 :: F) w5 (ado ex (find y key)) s9 s8 Fw)
      case rest =>
       obtain ⟨g8, hg8, hs8, hbF, hrel⟩ := hcut
       subst hs8
       have HbF := Yq hbF
       have HBc : Hid (Below g1 w2 wc) := (HB.out.trans (Hb5.out.mono (Nat.le_of_lt hgl))).trans (hbF.mono (Nat.le_of_lt hg1l))
       have HBw : Hid (Below w.heap.size w wc) := Hb2.out.trans (HBc.out.mono Hg1.out.1)
       have hB1 := HBB.out.1.below HbF.out hg1l
       have hB4 := HBB.out.2.below HbF.out HBB.out.2.lt
       have hB7 := HB7.out.below HbF.out hg7l
       clear q0 q1 q3 hbF hg8
       generalize hR : ado ex (find y key) = rr at *
       have HRR := Yq hR
       clear hR
       cases rr with
       | bad b =>
        have HK : Hid (adoK ks v = .bad b) := HbadK.out b (keyR_bad HH.out HRR.out)
        obtain ⟨et, ev, he⟩ := Errs.is er b
        replace hrel : u9 = er.of b := hrel
        rw [he] at hrel
        subst hrel
        have He := Yq he
        clear he hgl hwl hlt hkn hB1 hB7
        go_wp2_with (first
         | (refine wpList_store_all rfl 27 _ _ rfl g4 zV rfl rfl zV hB4 infoV rfl zV_one ?_; (intro w6 hB6 hgr6; replace HBw := Yq (Below.grown HBw.out hgr6 HBw.out.size (fun _ e => by cases e; exact hg4w)))))
        rw [HK.out]
        refine bodyPost_ret (v := .tuple #[.agg zV.toArray, .iface et ev]) (results2_blk rfl _ _ g4 zV _ rfl rfl hB6 _ Tryz.underlying27 rfl infoV) rfl ⟨HBw.out, congrArg (fun z => Ending.returned (.tuple #[.agg zV.toArray, z])) He.out.symm⟩
       | ok z =>
        obtain ⟨h9, zc, hB8, hVz⟩ := hrel
        subst h9
        have HB8 := Yq hB8
        have HVz := Yq hVz
        have HLz := Yq hVz.len
        have HBq := Yq (And.intro hB1 (And.intro hB4 hB7))
        have z0 : wc.cell? ⟨g8, 0, none⟩ = some (.int .i64 z.kind) := hB8.cell hVz.k0
        have zr := hB8.whole
        have HP := Yq (apart_any z zc wc (hVz.mono (fragE_le _ _)))
        clear hB1 hB4 hB7 hB8 hVz
        generalize hzk : z.kind = zk at *
        have HZK := Yq hzk
        clear hzk
        have Hgl8 : Hid (g8 < wc.heap.size) := HB8.out.lt
        obtain ⟨w8, rfl⟩ : ∃ z, z = wc := ⟨wc, rfl⟩
        go_upto_region 11 with (fail)
        go_cut [60] from 24 to 76 (fun s60 Fw => s60 = .bool (decide (zk ≠ 0 ∧ ¬ (1 ≤ zk ∧ zk ≤ 3))) ∧ Below w8.heap.size w8 Fw)
        case rest =>
         obtain ⟨h60, hb9⟩ := hcut
         obtain ⟨w9, rfl⟩ : ∃ z, z = wc := ⟨wc, rfl⟩
         subst h60
         have Hb9 := Yq hb9
         have HBw9 : Hid (Below w.heap.size w w9) := HBw.out.trans (hb9.mono HBw.out.size)
         have HBc9 : Hid (Below g1 w2 w9) := HBc.out.trans (hb9.mono (Nat.le_of_lt HBq.out.1.lt))
         have hB1 := HBq.out.1.below hb9 HBq.out.1.lt
         have hB4 := HBq.out.2.1.below hb9 HBq.out.2.1.lt
         have hB7 := HBq.out.2.2.below hb9 HBq.out.2.2.lt
         have hB8 := HB8.out.below hb9 HB8.out.lt
         have HB14 := Yq (And.intro hB1 hB4)
         clear z0 zr hb9
         by_cases hq : zk ≠ 0 ∧ ¬ (1 ≤ zk ∧ zk ≤ 3)
         ·have HK : Hid (adoK ks v = .bad 12) := HbadK.out 12 (keyR_kind HH.out HRR.out (by rw [HZK.out]; exact hq))
          rw [decide_eq_true hq]
          have hE := (HE.out _ HBw9.out).k
          obtain ⟨⟨z0, z1, z2, z3, z4, z5, z6⟩, f0, f1, f2, f3, f4, f5, f6⟩ := hB4.zero
          have n1 : ¬ g4 = 11 := fun e => absurd hg4w (by have := HG.out.k; omega)
          have n2 : ¬ 11 = g4 := fun e => n1 e.symm
          clear hq hB1 hB4 hB7 hB8 hkn
          go_wp2_with fail
          go_region
          all_goals
           go_wp2_with fail
           rw [HK.out]
           refine bodyPost_ret (v := .tuple #[.agg zV.toArray, er.k]) (results2_blk rfl _ _ g4 zV _ rfl rfl ?_ _ Tryz.underlying27 rfl infoV) rfl ⟨?_, rfl⟩
           ·exact blk_zeroed HB14.out.2
           ·exact below_zeroed HBw9.out hg4w
         ·have HI' : Hid (BookInv ks v (k + 1) (putV y key z)) := HokK.out _ (keyR_ok HH.out HRR.out (by rw [HZK.out]; exact hq))
          rw [decide_eq_false hq]
          have hle9 : FLe (fragE w5 (some g1 :: some g4 :: F)) (fragE w9 (some g1 :: some g4 :: F)) := belowE (HbF.out.trans (Hb9.out.mono HbF.out.size)) (fun _ h => .inl h)
          have HW : Hid (Calls Tryz.prog 76 #[.agg yc.toArray, .agg kc.toArray, .agg zc.toArray] w9 (RetV (some g1 :: some g4 :: F) w9 (putV y key z))) :=
           put_any y key z yc kc zc w9 (some g1 :: some g4 :: F) (fun k hk => Nat.lt_of_lt_of_le (HF5.out k hk) (Nat.le_trans HbF.out.size Hb9.out.size)) (HV5.out.mono hle9) (HK5.out.mono hle9) (HVz.out.mono (belowE Hb9.out (fun k hk => .inl (List.mem_cons_of_mem _ hk)))) (HMo.out HH.out).1 HRg.out.2.1.2
          have q3 := hB1.whole
          have q8 := hB8.whole
          have q7 := (HBs.out _ _ hB7).1
          clear hq hB1 hB4 hB7 hB8 hle9
          go_wp2_with (first
           | (refine wpList_load_seg rfl 27 _ rfl _ _ rfl _ _ (by assumption) Tryz.underlying27 rfl ?_ ?_; (· first | exact iC infoV HLy | exact iC infoV HLz | exact iC infoV HLk))
           | (go_at_call 76; (with_reducible refine HW.out.mono ?_); rintro e w6 ⟨rc, rfl, hVr, hb6⟩; have HVr := Yq hVr; have Hb6 := Yq hb6; have hB1 := HB14.out.1.below hb6 HB14.out.1.lt; have HLr := Yq hVr.len; have H1r := Yq hVr.shape.one; clear hVr hb6 q3 q8 q7)
           | (refine wpList_store_all rfl 27 _ _ rfl g1 rc rfl rfl yc (by assumption) ?_ ?_ ?_ ?_; (· exact iC infoV HLr); (· exact HLr.out.trans HLy.out.symm); (· exact H1r.out); (intro w7 hB7 hgr7; have HB7' := Yq hB7; have Hgr7 := Yq hgr7; clear hB1 hB7 hgr7)))
          have hcs : g1 < w9.heap.size := HB14.out.1.lt
          have HB7b : Hid (Below g1 w9 w7) := Below.grown (Hb6.out.mono (Nat.le_of_lt hcs)) Hgr7.out (Nat.le_trans (Nat.le_of_lt hcs) Hb6.out.size) (fun _ e => by cases e; exact Nat.le_refl _)
          have HR' : Hid (VR (fragE w7 (some g1 :: some g4 :: F)) (putV y key z) rc ∧ Blk w7 g1 rc ∧ Blk w7 g4 zV) :=
           ⟨HVr.out.mono (grownE Hgr7.out (.inr (by simp)) (fun _ h => .inl h)), HB7'.out, (HB14.out.2.below Hb6.out HB14.out.2.lt).grown Hgr7.out (fun e => by cases e; have := Hg1.out; omega)⟩
          have HBn : Hid (Below g1 w2 w7) := HBc9.out.trans HB7b.out
          go_roundw
          case rel => exact ⟨k + 1, putV y key z, rc, by omega, by go_num, HI', HR', HBn⟩
          case measure => simp [intOf]; omega
        clear hkn
        by_cases hk0 : zk = 0
        ·subst hk0
         go_wp2_with fail
         go_meet
         exact ⟨by simp, Below.refl _ _⟩
        ·by_cases hk1 : 1 ≤ zk ∧ zk ≤ 3
         ·rw [decide_eq_true hk1] at HP
          have Hk : Hid (decide (zk ≠ 0 ∧ ¬ (1 ≤ zk ∧ zk ≤ 3)) = false) := decide_eq_false (fun h => h.2 hk1)
          clear hk1
          go_wp2_with (first
           | (refine wpList_load_seg rfl 27 _ rfl _ _ rfl _ _ (by assumption) Tryz.underlying27 rfl (iC infoV HLz) ?_)
           | (go_at_call 75; (with_reducible refine HP.out.mono ?_); rintro e w6 ⟨rfl, hb6⟩))
          go_meet
          exact ⟨by rw [Hk.out], hb6⟩
         ·rw [decide_eq_false hk1] at HP
          have Hk : Hid (decide (zk ≠ 0 ∧ ¬ (1 ≤ zk ∧ zk ≤ 3)) = true) := decide_eq_true ⟨hk0, hk1⟩
          clear hk1
          go_wp2_with (first
           | (refine wpList_load_seg rfl 27 _ rfl _ _ rfl _ _ (by assumption) Tryz.underlying27 rfl (iC infoV HLz) ?_)
           | (go_at_call 75; (with_reducible refine HP.out.mono ?_); rintro e w6 ⟨rfl, hb6⟩))
          go_meet
          exact ⟨by rw [Hk.out], hb6⟩
      have hS0 : (fun w' : World => (w'.rangeAt g7 7 exc ∧ w'.rangeAt g1 0 yc ∧ w'.rangeAt g7 0 kc ∧ Below w5.heap.size w5 w')) w5.drew := ⟨q1, q3, q0, (Below.refl _ _).drew⟩
      refine wp_region_held_drew (S := fun w' => (w'.rangeAt g7 7 exc ∧ w'.rangeAt g1 0 yc ∧ w'.rangeAt g7 0 kc ∧ Below w5.heap.size w5 w')) (by kernel_rfl) hS0 (fun hS => ?_)
      refine wpAnyH_take (i := 0) (v := .pointer (some ⟨g7, 7, none⟩)) rfl (by kernel_rfl) (by kernel_rfl) (by kernel_rfl) (fun _ _ _ h => h) (.inl ⟨by rfl, fun w hw => by go_simp⟩) hS ?_
      refine wpAnyH_take (i := 1) (v := .agg exc.toArray) rfl (by kernel_rfl) (by kernel_rfl) (by kernel_rfl) (fun _ _ _ h => h) (yieldsIf_load_mid (by rfl) 32 _ rfl g7 7 rfl exc _ (fun w h => h.1) Tryz.underlying32 rfl (iC infoE HLx)) hS ?_
      refine wpAnyH_take (i := 2) (v := .agg yc.toArray) rfl (by kernel_rfl) (by kernel_rfl) (by kernel_rfl) (fun _ _ _ h => h) (yieldsIf_load_mid (by rfl) 27 _ rfl g1 0 rfl yc _ (fun w h => h.2.1) Tryz.underlying27 rfl (iC infoV HLy)) hS ?_
      refine wpAnyH_take (i := 3) (v := .pointer (some ⟨g7, 0, none⟩)) rfl (by kernel_rfl) (by kernel_rfl) (by kernel_rfl) (fun _ _ _ h => h) (.inl ⟨by rfl, fun w hw => by go_simp⟩) hS ?_
      refine wpAnyH_take (i := 4) (v := .agg kc.toArray) rfl (by kernel_rfl) (by kernel_rfl) (by kernel_rfl) (fun _ _ _ h => h) (yieldsIf_load_mid (by rfl) 27 _ rfl g7 0 rfl kc _ (fun w h => h.2.2.1) Tryz.underlying27 rfl (iC infoV HLk)) hS ?_
      refine wpAnyH_ready (rs := [5, 10]) (by kernel_rfl) (by simp) ?_
      refine AllReadyH.cons rfl (fun K hK => ?_) ?_
      ·go_simp
       refine (HGet.out (some g1 :: some g4 :: F) w5.drew HF5.out (FLe.refl _)).mono ?_
       rintro e w6 ⟨gc, rfl, hV6, hb6'⟩
       have hb6 : Below w5.heap.size w5 w6 := (Below.refl _ _).drew.trans hb6'
       refine hK.out _ _ ⟨range_below q1 hb6 hg7l, range_below q3 hb6 hg1l, range_below q0 hb6 hg7l, hb6⟩ (fun hS => ?_)
       clear hK
       refine wpAnyH_ready (rs := [6, 10]) (by kernel_rfl) (by simp) ?_
       refine AllReadyH.cons rfl (fun K hK => ?_) ?_
       ·go_simp
        refine (HDo.out (some g1 :: some g4 :: F) w6 gc (fun k hk => Nat.lt_of_lt_of_le (HF5.out k hk) hb6.size) hb6 (belowE hb6 (fun _ h => .inl h)) hV6).mono ?_
        rintro e w7 hR
        obtain ⟨cs, ev, rfl, hcl, hc1, hbR, hV⟩ := RetR.form hR
        have hb7 : Below w5.heap.size w5 w7 := hb6.trans (hbR.mono hb6.size)
        refine hK.out _ _ ⟨range_below q1 hb7 hg7l, range_below q3 hb7 hg1l, range_below q0 hb7 hg7l, hb7⟩ (fun HSS => ?_)
        clear hK
        refine wpAnyH_take (i := 7) (v := .tuple #[.agg cs.toArray, ev]) rfl (by kernel_rfl) (by kernel_rfl) (by kernel_rfl) (fun _ _ _ h => h) (.inl ⟨by rfl, fun w hw => by go_simp⟩) HSS ?_
        refine wpAnyH_take (i := 8) (v := .agg cs.toArray) rfl (by kernel_rfl) (by kernel_rfl) (by kernel_rfl) (fun _ _ _ h => h) (.inl ⟨by rfl, fun w hw => by go_simp⟩) HSS ?_
        refine wpAnyH_take (i := 9) (v := ev) rfl (by kernel_rfl) (by kernel_rfl) (by kernel_rfl) (fun _ _ _ h => h) (.inl ⟨by rfl, fun w hw => by go_simp⟩) HSS ?_
        refine wpAnyH_ready (rs := [10]) (by kernel_rfl) (by simp) ?_
        refine AllReadyH.cons rfl (fun K hK => ?_) AllReadyH.nil
        go_simp
        have hb8 : Below w5.heap.size w5 (w7.alloc (.cells zV.toArray 27)) := hb7.alloc hb7.size _
        have hB8 : Blk (w7.alloc (.cells zV.toArray 27)) w7.heap.size zV := Blk.new w7 _ zV
        refine hK.out _ _ ⟨range_below q1 hb8 hg7l, range_below q3 hb8 hg1l, range_below q0 hb8 hg7l, hb8⟩ (fun HSS => ?_)
        clear hK
        have hleA : FLe (fragE w7 (some g1 :: some g4 :: F)) (fragE (w7.alloc (.cells zV.toArray 27)) (some w7.heap.size :: (some g1 :: some g4 :: F))) :=
         grownE (w' := (w7.alloc (.cells zV.toArray 27))) (World.grownBy_alloc w7 _ none) (.inl rfl) (fun k hk => by
          rcases List.mem_cons.1 hk with hk | hk
          ·right; cases hk; exact Nat.le_refl _
          ·exact .inl hk)
        refine wpAnyH_ready (rs := [11]) (by kernel_rfl) (by simp) ?_
        refine AllReadyH.cons rfl (fun K hK => ?_) AllReadyH.nil
        rw [if_pos (by rfl)]
        refine wp_store_blk 27 _ _ rfl w7.heap.size 0 _ cs zV rfl rfl rfl hB8 (infoV.trans (congrArg some hcl.symm)) (by rw [hcl]; decide) hc1 ?_
        have hg5 := setRow_grown (w := (w7.alloc (.cells zV.toArray 27))) (g := w7.heap.size) (patch zV 0 cs).toArray
        have hB5 : Blk ((w7.alloc (.cells zV.toArray 27)).setRow w7.heap.size (patch zV 0 cs).toArray) w7.heap.size cs := by
         have e : patch zV 0 cs = cs := by unfold patch; simp; rw [hcl]; decide
         have := hB8.set (patch zV 0 cs)
         rw [e] at this ⊢; exact this
        have hbF : Below w5.heap.size w5 ((w7.alloc (.cells zV.toArray 27)).setRow w7.heap.size (patch zV 0 cs).toArray) := Below.grown hb8 hg5 hb8.size (fun _ e => by cases e; exact hb7.size)
        have HRel := Yq (hV.rel (w1 := w5) (g := w7.heap.size) (E := (some g1 :: some g4 :: F)) (hleA.trans (grownE hg5 (.inr (by simp)) (fun _ h => .inl h))) hb7.size hbF hB5)
        refine hK.out _ _ ⟨range_below q1 hbF hg7l, range_below q3 hbF hg1l, range_below q0 hbF hg7l, hbF⟩ (fun HSS => ?_)
        refine wpAnyH_take (i := 12) (v := ev) rfl (by kernel_rfl) (by kernel_rfl) (by kernel_rfl) (fun _ _ _ h => h) (.inl ⟨by rfl, fun w hw => by go_simp⟩) HSS ?_
        refine wpAnyH_done (by kernel_rfl) ?_ _
        clear hbF hB5 hg5 HSS hK
        go_wp2_with fail
        go_meet
        exact HRel.out
       ·refine AllReadyH.cons rfl (fun K hK => ?_) AllReadyH.nil
        go_simp
        have hb7 : Below w5.heap.size w5 (w6.alloc (.cells zV.toArray 27)) := hb6.alloc hb6.size _
        have hB7 : Blk (w6.alloc (.cells zV.toArray 27)) w6.heap.size zV := Blk.new w6 _ zV
        refine hK.out _ _ ⟨range_below q1 hb7 hg7l, range_below q3 hb7 hg1l, range_below q0 hb7 hg7l, hb7⟩ (fun HSS => ?_)
        clear hK
        refine wpAnyH_ready (rs := [6]) (by kernel_rfl) (by simp) ?_
        refine AllReadyH.cons rfl (fun K hK => ?_) AllReadyH.nil
        go_simp
        have hleA : FLe (fragE w6 (some g1 :: some g4 :: F)) (fragE (w6.alloc (.cells zV.toArray 27)) (some w6.heap.size :: (some g1 :: some g4 :: F))) :=
         grownE (w' := (w6.alloc (.cells zV.toArray 27))) (World.grownBy_alloc w6 _ none) (.inl rfl) (fun k hk => by
          rcases List.mem_cons.1 hk with hk | hk
          ·right; cases hk; exact Nat.le_refl _
          ·exact .inl hk)
        refine (HDo.out (some w6.heap.size :: (some g1 :: some g4 :: F)) (w6.alloc (.cells zV.toArray 27)) gc (fun k hk => by
         have h1 : (w6.alloc (.cells zV.toArray 27)).heap.size = w6.heap.size + 1 := World.size_alloc _ _
         rcases List.mem_cons.1 hk with hk | hk
         ·cases hk; omega
         ·have := HF5.out k hk; have := hb6.size; omega) hb7 ((belowE hb6 (fun _ h => .inl h)).trans hleA) (hV6.mono hleA)).mono ?_
        rintro e w8 hR
        obtain ⟨cs, ev, rfl, hcl, hc1, hbR, hV⟩ := RetR.form hR
        have hb8 : Below w5.heap.size w5 w8 := hb7.trans (hbR.mono hb7.size)
        have hB8 : Blk w8 w6.heap.size zV := hB7.below hbR hB7.lt
        refine hK.out _ _ ⟨range_below q1 hb8 hg7l, range_below q3 hb8 hg1l, range_below q0 hb8 hg7l, hb8⟩ (fun HSS => ?_)
        clear hK
        refine wpAnyH_take (i := 7) (v := .tuple #[.agg cs.toArray, ev]) rfl (by kernel_rfl) (by kernel_rfl) (by kernel_rfl) (fun _ _ _ h => h) (.inl ⟨by rfl, fun w hw => by go_simp⟩) HSS ?_
        refine wpAnyH_take (i := 8) (v := .agg cs.toArray) rfl (by kernel_rfl) (by kernel_rfl) (by kernel_rfl) (fun _ _ _ h => h) (.inl ⟨by rfl, fun w hw => by go_simp⟩) HSS ?_
        refine wpAnyH_take (i := 9) (v := ev) rfl (by kernel_rfl) (by kernel_rfl) (by kernel_rfl) (fun _ _ _ h => h) (.inl ⟨by rfl, fun w hw => by go_simp⟩) HSS ?_
        refine wpAnyH_ready (rs := [11]) (by kernel_rfl) (by simp) ?_
        refine AllReadyH.cons rfl (fun K hK => ?_) AllReadyH.nil
        rw [if_pos (by rfl)]
        refine wp_store_blk 27 _ _ rfl w6.heap.size 0 _ cs zV rfl rfl rfl hB8 (infoV.trans (congrArg some hcl.symm)) (by rw [hcl]; decide) hc1 ?_
        have hg5 := setRow_grown (w := w8) (g := w6.heap.size) (patch zV 0 cs).toArray
        have hB5 : Blk (w8.setRow w6.heap.size (patch zV 0 cs).toArray) w6.heap.size cs := by
         have e : patch zV 0 cs = cs := by unfold patch; simp; rw [hcl]; decide
         have := hB8.set (patch zV 0 cs)
         rw [e] at this ⊢; exact this
        have hbF : Below w5.heap.size w5 (w8.setRow w6.heap.size (patch zV 0 cs).toArray) := Below.grown hb8 hg5 hb8.size (fun _ e => by cases e; exact hb6.size)
        have HRel := Yq (hV.rel (w1 := w5) (g := w6.heap.size) (E := (some g1 :: some g4 :: F)) ((grownE hg5 (.inr (by simp)) (fun _ h => .inl h))) hb6.size hbF hB5)
        refine hK.out _ _ ⟨range_below q1 hbF hg7l, range_below q3 hbF hg1l, range_below q0 hbF hg7l, hbF⟩ (fun HSS => ?_)
        refine wpAnyH_take (i := 12) (v := ev) rfl (by kernel_rfl) (by kernel_rfl) (by kernel_rfl) (fun _ _ _ h => h) (.inl ⟨by rfl, fun w hw => by go_simp⟩) HSS ?_
        refine wpAnyH_done (by kernel_rfl) ?_ _
        clear hbF hB5 hg5 HSS hK
        go_wp2_with fail
        go_meet
        exact HRel.out
      ·refine AllReadyH.cons rfl (fun K hK => ?_) AllReadyH.nil
       go_simp
       have hb6 : Below w5.heap.size w5 ((w5.alloc (.cells zV.toArray 27)).drew) := ((Below.refl _ _).alloc (Nat.le_refl _) _).drew
       have hB6 : Blk ((w5.alloc (.cells zV.toArray 27)).drew) w5.heap.size zV := Blk.new w5 _ zV
       refine hK.out _ _ ⟨range_below q1 hb6 hg7l, range_below q3 hb6 hg1l, range_below q0 hb6 hg7l, hb6⟩ (fun HSS => ?_)
       clear hK
       refine wpAnyH_ready (rs := [5]) (by kernel_rfl) (by simp) ?_
       refine AllReadyH.cons rfl (fun K hK => ?_) AllReadyH.nil
       go_simp
       have hleA : FLe (fragE w5 (some g1 :: some g4 :: F)) (fragE ((w5.alloc (.cells zV.toArray 27)).drew) (some w5.heap.size :: (some g1 :: some g4 :: F))) :=
        grownE (w' := (w5.alloc (.cells zV.toArray 27))) (World.grownBy_alloc w5 _ none) (.inl rfl) (fun k hk => by
         rcases List.mem_cons.1 hk with hk | hk
         ·right; cases hk; exact Nat.le_refl _
         ·exact .inl hk)
       have hF6 : ∀ k, some k ∈ (some w5.heap.size :: (some g1 :: some g4 :: F)) → k < ((w5.alloc (.cells zV.toArray 27)).drew).heap.size := fun k hk => by
        have h1 : ((w5.alloc (.cells zV.toArray 27)).drew).heap.size = w5.heap.size + 1 := World.size_alloc _ _
        rcases List.mem_cons.1 hk with hk | hk
        ·cases hk; omega
        ·have := HF5.out k hk; omega
       refine (HGet.out (some w5.heap.size :: (some g1 :: some g4 :: F)) ((w5.alloc (.cells zV.toArray 27)).drew) hF6 hleA).mono ?_
       rintro e w7 ⟨gc, rfl, hV7, hb7'⟩
       have hb7 : Below w5.heap.size w5 w7 := hb6.trans (hb7'.mono hb6.size)
       have hB7 : Blk w7 w5.heap.size zV := hB6.below hb7' hB6.lt
       refine hK.out _ _ ⟨range_below q1 hb7 hg7l, range_below q3 hb7 hg1l, range_below q0 hb7 hg7l, hb7⟩ (fun HSS => ?_)
       clear hK
       refine wpAnyH_ready (rs := [6]) (by kernel_rfl) (by simp) ?_
       refine AllReadyH.cons rfl (fun K hK => ?_) AllReadyH.nil
       go_simp
       refine (HDo.out (some w5.heap.size :: (some g1 :: some g4 :: F)) w7 gc (fun k hk => Nat.lt_of_lt_of_le (hF6 k hk) hb7'.size) hb7 (hleA.trans (belowE hb7' (fun _ h => .inl h))) hV7).mono ?_
       rintro e w8 hR
       obtain ⟨cs, ev, rfl, hcl, hc1, hbR, hV⟩ := RetR.form hR
       have hb8 : Below w5.heap.size w5 w8 := hb7.trans (hbR.mono hb7.size)
       have hB8 : Blk w8 w5.heap.size zV := hB7.below hbR hB7.lt
       refine hK.out _ _ ⟨range_below q1 hb8 hg7l, range_below q3 hb8 hg1l, range_below q0 hb8 hg7l, hb8⟩ (fun HSS => ?_)
       clear hK
       refine wpAnyH_take (i := 7) (v := .tuple #[.agg cs.toArray, ev]) rfl (by kernel_rfl) (by kernel_rfl) (by kernel_rfl) (fun _ _ _ h => h) (.inl ⟨by rfl, fun w hw => by go_simp⟩) HSS ?_
       refine wpAnyH_take (i := 8) (v := .agg cs.toArray) rfl (by kernel_rfl) (by kernel_rfl) (by kernel_rfl) (fun _ _ _ h => h) (.inl ⟨by rfl, fun w hw => by go_simp⟩) HSS ?_
       refine wpAnyH_take (i := 9) (v := ev) rfl (by kernel_rfl) (by kernel_rfl) (by kernel_rfl) (fun _ _ _ h => h) (.inl ⟨by rfl, fun w hw => by go_simp⟩) HSS ?_
       refine wpAnyH_ready (rs := [11]) (by kernel_rfl) (by simp) ?_
       refine AllReadyH.cons rfl (fun K hK => ?_) AllReadyH.nil
       rw [if_pos (by rfl)]
       refine wp_store_blk 27 _ _ rfl w5.heap.size 0 _ cs zV rfl rfl rfl hB8 (infoV.trans (congrArg some hcl.symm)) (by rw [hcl]; decide) hc1 ?_
       have hg5 := setRow_grown (w := w8) (g := w5.heap.size) (patch zV 0 cs).toArray
       have hB5 : Blk (w8.setRow w5.heap.size (patch zV 0 cs).toArray) w5.heap.size cs := by
        have e : patch zV 0 cs = cs := by unfold patch; simp; rw [hcl]; decide
        have := hB8.set (patch zV 0 cs)
        rw [e] at this ⊢; exact this
       have hbF : Below w5.heap.size w5 (w8.setRow w5.heap.size (patch zV 0 cs).toArray) := Below.grown hb8 hg5 hb8.size (fun _ e => by cases e; exact (Nat.le_refl _))
       have HRel := Yq (hV.rel (w1 := w5) (g := w5.heap.size) (E := (some g1 :: some g4 :: F)) ((grownE hg5 (.inr (by simp)) (fun _ h => .inl h))) (Nat.le_refl _) hbF hB5)
       refine hK.out _ _ ⟨range_below q1 hbF hg7l, range_below q3 hbF hg1l, range_below q0 hbF hg7l, hbF⟩ (fun HSS => ?_)
       refine wpAnyH_take (i := 12) (v := ev) rfl (by kernel_rfl) (by kernel_rfl) (by kernel_rfl) (fun _ _ _ h => h) (.inl ⟨by rfl, fun w hw => by go_simp⟩) HSS ?_
       refine wpAnyH_done (by kernel_rfl) ?_ _
       clear hbF hB5 hg5 HSS hK
       go_wp2_with fail
       go_meet
       exact HRel.out
    obtain ⟨ap, cp, pe, h6, hFl, hPs⟩ := VR.ps HV5a.out
    have q6 := HBBa.out.1.cell h6
    have qk : wa.cell? ⟨g7, 0, none⟩ = some (.int .i64 key.kind) := HB7a.out.cell (o := 0) (by rw [List.getElem?_append_left (by rw [HLk.out]; decide)]; exact HK0.out)
    cases hps : y.pairs with
    | nil =>
     have hpl : pe.length = 0 := by rw [hPs.len, hps]; rfl
     have Hd : Hid (decide (headKind y key) = false) := decide_eq_false (headKind_nil hps)
     have gl : decide (0 < pe.length) = false := decide_eq_false (by omega)
     have gl2 : decide ((0 : Int) < (pe.length : Int)) = false := decide_eq_false (by omega)
     clear h6 hFl hPs hps hpl hlt hkn hb0
     go_quiet (fail)
     all_goals
      go_wp2_with fail
      go_meet
      exact ⟨by rw [Hd.out], Below.drewN (Below.refl _ _) _⟩
    | cons p rp =>
     have hpl : 0 < pe.length := by rw [hPs.len, hps]; simp
     obtain ⟨b1, o1, hb1, hidx1, hcell1⟩ := FlatC.at (n := pe.length) (cap := cp) (a := ap) (hFl.mono (fragE_le _ _)) (by decide) (i := 0) hpl Tryz.underlying25 sizePs
     obtain ⟨kc', xc', hx', rk', rxx⟩ := hPs.at (i := 0) (by rw [hps]; simp) hpl
     have qp : wa.cell? ⟨b1, o1, none⟩ = some (.int .i64 p.1.kind) := by
      have h0 := rk'.k0
      simp only [hps, List.getElem_cons_zero] at h0
      have := hcell1 0 (.int .i64 p.1.kind) (by rw [hx', List.getElem?_append_left (by rw [rk'.len]; decide)]; exact h0)
      simpa using this
     rw [show ((0 : Nat) : Int) = 0 from rfl] at hidx1
     have Hd : Hid (decide (headKind y key) = decide (p.1.kind ≠ key.kind)) := by
      show _ = _
      exact decide_eq_decide.2 (headKind_of (by rw [hps]; rfl))
     have gl : decide (0 < pe.length) = true := decide_eq_true hpl
     have gl2 : decide ((0 : Int) < (pe.length : Int)) = true := decide_eq_true (by omega)
     clear rxx rk' hx' hcell1 h6 hFl hPs hps hpl hlt hkn hb0
     generalize p.1.kind = pk at *
     generalize hkk : key.kind = kk at *
     clear hkk
     go_quiet (fail)
     all_goals
      go_wp2_with fail
      go_meet
      exact ⟨by rw [Hd.out]; by_cases h : pk = kk <;> simp [h], Below.drewN (Below.refl _ _) _⟩
   ·obtain rfl : k = ns := by omega
    have Hfin : Hid (adoK ks v = .ok y) := BookInv.fin (by rw [Hm.out]; exact HI.out)
    have HLy := Yq HR.out.1.len
    have H1y := Yq HR.out.1.shape.one
    have q3 := HR.out.2.1.whole
    have hB4 := HR.out.2.2
    have hg4w : w.heap.size ≤ g4 := by have := Hg1.out; omega
    clear hlt hkn hc1
    go_wp2_with (first
     | (refine wpList_load_seg rfl 27 _ rfl _ _ rfl _ _ (by assumption) Tryz.underlying27 rfl (iC infoV HLy) ?_)
     | (refine wpList_store_all rfl 27 _ _ rfl g4 yc rfl rfl zV (by assumption) ?_ ?_ ?_ ?_; (· exact iC infoV HLy); (· exact HLy.out); (· exact H1y.out); (intro w6 hB6 hgr6; have Hgr6 := Yq hgr6; replace Hbw := Yq (Below.grown Hbw.out hgr6 Hbw.out.size (fun _ e => by cases e; exact hg4w)))))
    rw [Hfin.out]
    exact bodyPost_ret (v := .tuple #[.agg yc.toArray, .nilIface]) (results2_blk rfl _ _ g4 _ _ rfl rfl hB6 _ Tryz.underlying27 rfl (iC infoV HLy)) rfl ⟨Hbw.out, _, rfl, HR.out.1.mono (grownE Hgr6.out (.inr (by simp)) (fun k hk => .inl (by simp [hk])))⟩
end Go.Proofs.YtebekgdjknenlaaGreatDoor
