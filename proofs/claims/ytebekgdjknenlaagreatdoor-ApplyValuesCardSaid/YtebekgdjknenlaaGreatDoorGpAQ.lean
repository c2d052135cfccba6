/- redlineref13.Get, walked. redlineref13.Find, walked. Plain facts: fields and. -/
import Derived.Test.YtebekgdjknenlaaGreatDoorRefOf
set_option maxRecDepth 100000
set_option maxHeartbeats 4000000
set_option linter.unusedVariables false
set_option linter.unusedSimpArgs false
namespace Go.Proofs.YtebekgdjknenlaaGreatDoor
open Go.RowKit
open Val (V v0 right get look KI ocmp Srt okF)
theorem v0_VR (h : Frag) : VR h v0 zV := by
 unfold Val.v0; rw [VR]
 exact ⟨_, _, _, [], [], [], rfl, ⟨by simp [maxLen], by simp [maxLen]⟩, ⟨FlatC.nil 8 h, FlatC.nil 7 h, FlatC.nil 14 h⟩, by rw [FsR], by rw [LsR], by rw [PsR]⟩
def Val.first (f : List (Int × V)) (n : Int) : Option V := (f.find? (fun e => e.1 == n)).map (·.2)
theorem Val.first_at {f : List (Int × V)} {n : Int} {k : Nat} (hk : k < f.length) (h : f[k].1 = n) (ha : ∀ j (hj : j < k), (f[j]'(by omega)).1 ≠ n) : Val.first f n = some f[k].2 := by
 unfold Val.first
 have : f.find? (fun e => e.1 == n) = some f[k] := by
  rw [List.find?_eq_some_iff_getElem]
  exact ⟨by simpa using h, k, hk, rfl, fun j hj => by simpa using ha j hj⟩
 rw [this]; rfl
theorem Val.first_none {f : List (Int × V)} {n : Int} (ha : ∀ j (hj : j < f.length), f[j].1 ≠ n) : Val.first f n = none := by
 unfold Val.first
 have : f.find? (fun e => e.1 == n) = none := by
  rw [List.find?_eq_none]
  intro e he
  obtain ⟨j, hj, rfl⟩ := List.getElem_of_mem he
  simpa using ha j hj
 rw [this]; rfl
theorem Val.first_look {f : List (Int × V)} {n : Int} (hs : Srt ocmp KI f) (hn : KI n) : Val.first f n = look ocmp f n := by
 cases h : Val.first f n with
 | some x =>
  unfold Val.first at h
  obtain ⟨e, he, rfl⟩ := Option.map_eq_some_iff.1 h
  have h1 := List.mem_of_find?_eq_some he
  have h2 : e.1 = n := by have := List.find?_some he; simpa using this
  have : (n, e.2) ∈ f := by rw [← h2]; exact h1
  exact (Val.mem_look Val.ordI hs this).symm
 | none =>
  cases h2 : look ocmp f n with
  | none => rfl
  | some y =>
   have h3 := Val.look_mem Val.ordI hs hn h2
   unfold Val.first at h
   simp only [Option.map_eq_none_iff, List.find?_eq_none] at h
   exact absurd (h (n, y) h3) (by simp)
def Val.rget (v : V) (n : Int) : V := if v.kind = 3 then (Val.first v.fields n).getD v0 else v0
theorem Val.rget_eq {v : V} {n : Int} (hr : right v = true) (hn : KI n) : Val.rget v n = get v n := by
 unfold Val.rget
 by_cases hk : v.kind = 3
 ·rw [if_pos hk, Val.get_look n hk, Val.first_look (Val.srt_fields hr hk).1 hn]
 ·rw [if_neg hk]; unfold get; rw [if_neg (fun h => hk h.1)]
theorem zV1 : ∀ u ∈ zV, u.oneCell' = true := by simp [zV, Value.oneCell']
theorem rget_three (F : List (Option Nat)) (kd nn : Int) (t r : ByteArray) (f : List (Int × V)) (l : List V) (ps : List (V × V)) (n : Int) (vc : List Value) (w : World) (hF : ∀ k, some k ∈ F → k < w.heap.size) (hv : VR (fragE w F) (.mk 3 nn t f r l ps) vc) :
  Calls Tryz.prog 46 #[.agg vc.toArray, .int .i64 n] w (RetRV F w ((Val.first f n).getD v0)) := by
 rw [VR] at hv
 obtain ⟨fv0, lv0, pv0, fe, le, pe, hxc, h2, ⟨h3, h4, h5⟩, h6, h7, h8⟩ := hv
 obtain ⟨a1, c1, e1, b1, b2, b3⟩ := h3.len
 subst e1
 have HX1 : Hid (FlatC 8 (fragE w F) (.slice a1 fe.length c1) fe ∧ FsR (fragE w F) f fe) := ⟨h3, h6⟩
 have Hm1 := Yq h6.len
 have HC1 := Yq (fun (w2 : World) (g : Nat) (hB : Blk w2 g vc) => (show w2.cell? ⟨g, 0, none⟩ = some (.int .i64 3) ∧ w2.cell? ⟨g, 3, none⟩ = some (.slice a1 fe.length c1) by
  subst hxc; exact ⟨hB.cell rfl, hB.cell rfl⟩))
 obtain ⟨ns, hn⟩ : ∃ z, z = fe.length := ⟨_, rfl⟩
 rw [← hn] at HC1
 rw [← hn] at HX1
 have Hn := Yq hn.symm
 have hns : ns ≤ 9223372036854775807 := by unfold maxLen at b2; omega
 have HFw := Yq hF
 clear hxc h2 h3 h4 h5 h6 h7 h8 b1 b2 b3 hF hn
 go_enter Tryz.func46, Tryz.ntmps46
 go_wp2_with (first
  | (refine wpList_box_lay rfl 40 _ rfl vc rfl ?_; (intro w0 g1 hg1 hB1 hb0))
  | (refine wpList_alloc_lay rfl 40 rfl zV zeroRV ?_; (intro w2 g2 hg2 hB2 hb2; have hl1 : g1 < g2 := Nat.lt_of_lt_of_le hB1.lt hg2; replace hB1 := hB1.below hb2 hB1.lt; replace hg2 := Nat.le_trans hb0.size hg2; replace hb0 := hb0.trans (hb2.mono hb0.size); clear hb2; obtain ⟨q0, q3⟩ := HC1.out _ _ hB1)))
 have Hb0 := Yq hb0
 have Hg : Hid (w.heap.size ≤ g1 ∧ w.heap.size ≤ g2) := ⟨hg1, hg2⟩
 have HB : Hid (Blk w2 g1 vc ∧ Blk w2 g2 zV) := ⟨hB1, hB2⟩
 clear q0 q3 hb0 hg1 hg2 hB1 hB2 hl1
 go_loopw [10] (fun i wr => ∃ (k : Nat), k ≤ ns ∧ i = .int .i64 k ∧ Hid (∀ j (hj : j < f.length), j < k → f[j].1 ≠ n) ∧ Hid (Below w2.heap.size w2 wr)) (fun i _ => ns - (intOf i).toNat)
 case atStart => exact ⟨0, Nat.zero_le _, rfl, fun j h h2 => by omega, Below.refl _ _⟩
 case round =>
  obtain ⟨k, hkn, rfl, HI, HW⟩ := hrel
  have Hbw : Hid (Below w.heap.size w wr) := Hb0.out.trans (HW.out.mono Hb0.out.size)
  have hB1 := HB.out.1.below HW.out HB.out.1.lt
  have hB2 := HB.out.2.below HW.out HB.out.2.lt
  by_cases hlt : k < ns
  ·have hks : k < fe.length := by rw [Hn.out]; exact hlt
   have hkf : k < f.length := by rw [← Hm1.out, Hn.out]; exact hlt
   obtain ⟨b0, o0, hb0, hidx, hcell⟩ := FlatC.at (n := ns) (cap := c1) (a := a1) (HX1.out.1.mono (fragE_le _ _)) (by decide) (i := k) hks Tryz.underlying36 sizeRF
   have hr : wr.rangeAt b0 o0 fe[k] := range_below hcell Hbw.out hb0
   obtain ⟨exc, hx, rx⟩ := HX1.out.2.at hkf hks
   rw [hx] at hr
   have HX : Hid (VR (fragE w F) f[k].2 exc) := rx
   have HLx := Yq rx.len
   have HL8 : Hid ((Value.int .i64 f[k].1 :: exc).length = 8) := by show _ = _; rw [List.length_cons, rx.len]
   have H1 : Hid (∀ u ∈ Value.int .i64 f[k].1 :: exc, u.oneCell' = true) := fun u hu => by
    rcases List.mem_cons.1 hu with rfl | hu
    ·rfl
    ·exact rx.ones u hu
   have HBs := Yq (fun (w2 : World) (g : Nat) (hB : Blk w2 g (.int .i64 f[k].1 :: exc)) => And.intro (hB.cell (o := 0) (u := .int .i64 f[k].1) rfl) (show w2.rangeAt g 1 exc from hB.range (p := [.int .i64 f[k].1]) (q := exc) (r := []) (by simp) rfl))
   have Hhit := Yq (fun (h : f[k].1 = n) => Val.first_at hkf h (fun j hj => HI.out j (by omega) hj))
   have Hnext : Hid (f[k].1 ≠ n → ∀ j (hj : j < f.length), j < k + 1 → f[j].1 ≠ n) := fun h j hj h2 => by
    by_cases e : j = k
    ·subst e; exact h
    ·exact HI.out j hj (by omega)
   clear hcell hx rx
   obtain ⟨q0, q3⟩ := HC1.out _ _ hB1
   clear q3
   generalize f[k].1 = num at *
   generalize f[k].2 = ex at *
   have hBp := Yq (And.intro hB1 hB2)
   clear hB1 hB2 hkf hks
   go_upto_region 4 with ((first
    | (refine wpList_load_seg rfl 63 _ rfl _ _ rfl _ _ hr Tryz.underlying63 rfl (iC infoRF HL8) ?_)
    | (refine wpList_alloc_lay rfl 63 rfl (.int .i64 0 :: zV) zeroRF ?_; (intro w4 g7 hg7 hB7 hb4; clear hr q0))
    | (refine wpList_store_all rfl 63 _ _ rfl _ (.int .i64 num :: exc) rfl rfl (.int .i64 0 :: zV) hB7 ?_ ?_ ?_ ?_; (· exact iC infoRF HL8); (· exact HL8.out); (· exact H1.out); (intro w5 hB9 hgr5; have hb5 := Below.grown hb4 hgr5 hb4.size (fun _ e => by cases e; exact hg7); clear hb4 hgr5 hB7))))
   have Hb5 := Yq hb5
   have HB5 : Hid (Blk w5 g1 vc ∧ Blk w5 g2 zV) := ⟨hBp.out.1.below hb5 hBp.out.1.lt, hBp.out.2.below hb5 hBp.out.2.lt⟩
   obtain ⟨p0, p1⟩ := HBs.out _ _ hB9
   obtain ⟨q0, q3⟩ := HC1.out _ _ HB5.out.1
   have Hbw5 : Hid (Below w.heap.size w w5) := Hbw.out.trans (Hb5.out.mono Hbw.out.size)
   clear hb5 hg7 hB9 q3 hidx
   by_cases he : num = n
   ·subst he
    have hB2 := HB5.out.2
    have HV : Hid (∀ wE, w5.grownBy wE (some g2) → VR (fragE wE F) ex exc) := fun wE hg => by
     have hE : FLe (fragE w F) (fragE wE F) := (belowE (E' := some g2 :: F) Hbw5.out (fun j hj => by
      rcases List.mem_cons.1 hj with hj | hj
      ·cases hj; exact .inr Hg.out.2
      ·exact .inl hj)).trans (grownE hg (.inr (by simp)) (fun j hj => .inl (by simp [hj])))
     exact HX.out.mono hE
    have HO := Yq HX.out.ones
    go_wp2_with (first
     | (refine wpList_load_seg rfl 40 _ rfl _ _ rfl _ _ p1 Tryz.underlying40 rfl (iC infoRV HLx) ?_)
     | (refine wpList_store_all rfl 40 _ _ rfl g2 exc rfl rfl zV hB2 ?_ ?_ HO.out ?_; (· exact iC infoRV HLx); (· exact HLx.out); (intro wE hBE hgE; have hV := HV.out wE hgE; have hbE := Below.grown Hbw5.out hgE Hbw5.out.size (fun _ e => by cases e; exact Hg.out.2); clear p0 p1 q0)))
    refine bodyPost_ret (v := .agg exc.toArray) ?_ rfl ⟨exc, rfl, ?_, hbE⟩
    ·exact results_blk rfl _ _ g2 exc rfl hBE _ Tryz.underlying40 rfl (iC infoRV HLx)
    ·rw [Hhit.out (by simp)]; exact hV
   ·have he1 : decide (num = n) = false := decide_eq_false he
    have he2 : (num == n) = false := by simpa using he
    have HNE := Yq he
    clear he
    go_wp2_with fail
    go_roundw
    case rel => exact ⟨k + 1, by omega, by go_num, Hnext.out HNE.out, HW.out.trans (Hb5.out.mono HW.out.size)⟩
    case measure => simp [intOf]; omega
  ·obtain rfl : k = ns := by omega
   have hNone : Hid (Val.first f n = none) := Val.first_none (fun j hj => HI.out j hj (by rw [← Hn.out, Hm1.out]; exact hj))
   have hbw := Hbw.out
   clear HI HW hlt
   go_wp2_with (first
    | (refine wpList_store_all rfl 40 _ _ rfl g2 zV rfl rfl zV hB2 infoRV rfl zV1 ?_; (intro wE hBE hgE; have hbE := Below.grown hbw hgE hbw.size (fun _ e => by cases e; exact Hg.out.2))))
   refine bodyPost_ret (v := .agg zV.toArray) ?_ rfl ⟨zV, rfl, ?_, hbE⟩
   ·exact results_blk rfl _ _ g2 zV rfl hBE _ Tryz.underlying40 rfl infoRV
   ·rw [hNone.out]; exact v0_VR _
theorem rget_other (F : List (Option Nat)) (kd nn : Int) (t r : ByteArray) (f : List (Int × V)) (l : List V) (ps : List (V × V)) (n : Int) (vc : List Value) (w : World) (hF : ∀ k, some k ∈ F → k < w.heap.size) (hv : VR (fragE w F) (.mk kd nn t f r l ps) vc) (hk : ¬ kd = 3) :
  Calls Tryz.prog 46 #[.agg vc.toArray, .int .i64 n] w (RetRV F w (v0)) := by
 rw [VR] at hv
 obtain ⟨fv0, lv0, pv0, fe, le, pe, hxc, h2, ⟨h3, h4, h5⟩, h6, h7, h8⟩ := hv
 obtain ⟨a1, c1, e1, b1, b2, b3⟩ := h3.len
 subst e1
 have HX1 : Hid (FlatC 8 (fragE w F) (.slice a1 fe.length c1) fe ∧ FsR (fragE w F) f fe) := ⟨h3, h6⟩
 have Hm1 := Yq h6.len
 have HC1 := Yq (fun (w2 : World) (g : Nat) (hB : Blk w2 g vc) => (show w2.cell? ⟨g, 0, none⟩ = some (.int .i64 kd) ∧ w2.cell? ⟨g, 3, none⟩ = some (.slice a1 fe.length c1) by
  subst hxc; exact ⟨hB.cell rfl, hB.cell rfl⟩))
 obtain ⟨ns, hn⟩ : ∃ z, z = fe.length := ⟨_, rfl⟩
 rw [← hn] at HC1
 rw [← hn] at HX1
 have Hn := Yq hn.symm
 have hns : ns ≤ 9223372036854775807 := by unfold maxLen at b2; omega
 have HFw := Yq hF
 have hd1 : decide (kd = 3) = false := decide_eq_false hk
 have hd2 : (kd == 3) = false := by simpa using hk
 clear hxc h2 h3 h4 h5 h6 h7 h8 b1 b2 b3 hF hn hk
 go_enter Tryz.func46, Tryz.ntmps46
 go_wp2_with (first
  | (refine wpList_box_lay rfl 40 _ rfl vc rfl ?_; (intro w0 g1 hg1 hB1 hb0))
  | (refine wpList_alloc_lay rfl 40 rfl zV zeroRV ?_; (intro w2 g2 hg2 hB2 hb2; have hl1 : g1 < g2 := Nat.lt_of_lt_of_le hB1.lt hg2; replace hB1 := hB1.below hb2 hB1.lt; replace hg2 := Nat.le_trans hb0.size hg2; replace hb0 := hb0.trans (hb2.mono hb0.size); clear hb2; obtain ⟨q0, q3⟩ := HC1.out _ _ hB1)))
 have Hb0 := Yq hb0
 have Hg : Hid (w.heap.size ≤ g1 ∧ w.heap.size ≤ g2) := ⟨hg1, hg2⟩
 have HB : Hid (Blk w2 g1 vc ∧ Blk w2 g2 zV) := ⟨hB1, hB2⟩
 clear q0 q3 hb0 hg1 hg2 hB1 hB2 hl1
 go_loopw [10] (fun i wr => ∃ (k : Nat), k ≤ ns ∧ i = .int .i64 k ∧ Hid True ∧ Hid (Below w2.heap.size w2 wr)) (fun i _ => ns - (intOf i).toNat)
 case atStart => exact ⟨0, Nat.zero_le _, rfl, trivial, Below.refl _ _⟩
 case round =>
  obtain ⟨k, hkn, rfl, HI, HW⟩ := hrel
  have Hbw : Hid (Below w.heap.size w wr) := Hb0.out.trans (HW.out.mono Hb0.out.size)
  have hB1 := HB.out.1.below HW.out HB.out.1.lt
  have hB2 := HB.out.2.below HW.out HB.out.2.lt
  by_cases hlt : k < ns
  ·have hks : k < fe.length := by rw [Hn.out]; exact hlt
   have hkf : k < f.length := by rw [← Hm1.out, Hn.out]; exact hlt
   obtain ⟨b0, o0, hb0, hidx, hcell⟩ := FlatC.at (n := ns) (cap := c1) (a := a1) (HX1.out.1.mono (fragE_le _ _)) (by decide) (i := k) hks Tryz.underlying36 sizeRF
   have hr : wr.rangeAt b0 o0 fe[k] := range_below hcell Hbw.out hb0
   obtain ⟨exc, hx, rx⟩ := HX1.out.2.at hkf hks
   rw [hx] at hr
   have HX : Hid (VR (fragE w F) f[k].2 exc) := rx
   have HLx := Yq rx.len
   have HL8 : Hid ((Value.int .i64 f[k].1 :: exc).length = 8) := by show _ = _; rw [List.length_cons, rx.len]
   have H1 : Hid (∀ u ∈ Value.int .i64 f[k].1 :: exc, u.oneCell' = true) := fun u hu => by
    rcases List.mem_cons.1 hu with rfl | hu
    ·rfl
    ·exact rx.ones u hu
   have HBs := Yq (fun (w2 : World) (g : Nat) (hB : Blk w2 g (.int .i64 f[k].1 :: exc)) => And.intro (hB.cell (o := 0) (u := .int .i64 f[k].1) rfl) (show w2.rangeAt g 1 exc from hB.range (p := [.int .i64 f[k].1]) (q := exc) (r := []) (by simp) rfl))
   clear hcell hx rx
   obtain ⟨q0, q3⟩ := HC1.out _ _ hB1
   clear q3
   generalize f[k].1 = num at *
   generalize f[k].2 = ex at *
   have hBp := Yq (And.intro hB1 hB2)
   clear hB1 hB2 hkf hks
   go_upto_region 4 with ((first
    | (refine wpList_load_seg rfl 63 _ rfl _ _ rfl _ _ hr Tryz.underlying63 rfl (iC infoRF HL8) ?_)
    | (refine wpList_alloc_lay rfl 63 rfl (.int .i64 0 :: zV) zeroRF ?_; (intro w4 g7 hg7 hB7 hb4; clear hr q0))
    | (refine wpList_store_all rfl 63 _ _ rfl _ (.int .i64 num :: exc) rfl rfl (.int .i64 0 :: zV) hB7 ?_ ?_ ?_ ?_; (· exact iC infoRF HL8); (· exact HL8.out); (· exact H1.out); (intro w5 hB9 hgr5; have hb5 := Below.grown hb4 hgr5 hb4.size (fun _ e => by cases e; exact hg7); clear hb4 hgr5 hB7))))
   have Hb5 := Yq hb5
   have HB5 : Hid (Blk w5 g1 vc ∧ Blk w5 g2 zV) := ⟨hBp.out.1.below hb5 hBp.out.1.lt, hBp.out.2.below hb5 hBp.out.2.lt⟩
   obtain ⟨p0, p1⟩ := HBs.out _ _ hB9
   obtain ⟨q0, q3⟩ := HC1.out _ _ HB5.out.1
   have Hbw5 : Hid (Below w.heap.size w w5) := Hbw.out.trans (Hb5.out.mono Hbw.out.size)
   clear hb5 hg7 hB9 q3 hidx
   go_wp2_with fail
   go_roundw
   case rel => exact ⟨k + 1, by omega, by go_num, trivial, HW.out.trans (Hb5.out.mono HW.out.size)⟩
   case measure => simp [intOf]; omega
  ·obtain rfl : k = ns := by omega
   have hNone : Hid (True) := trivial
   have hbw := Hbw.out
   clear HI HW hlt
   go_wp2_with (first
    | (refine wpList_store_all rfl 40 _ _ rfl g2 zV rfl rfl zV hB2 infoRV rfl zV1 ?_; (intro wE hBE hgE; have hbE := Below.grown hbw hgE hbw.size (fun _ e => by cases e; exact Hg.out.2))))
   refine bodyPost_ret (v := .agg zV.toArray) ?_ rfl ⟨zV, rfl, ?_, hbE⟩
   ·exact results_blk rfl _ _ g2 zV rfl hBE _ Tryz.underlying40 rfl infoRV
   ·exact v0_VR _
theorem rget_any (F : List (Option Nat)) (v : V) (n : Int) (vc : List Value) (w : World) (hF : ∀ k, some k ∈ F → k < w.heap.size) (hv : VR (fragE w F) v vc) :
  Calls Tryz.prog 46 #[.agg vc.toArray, .int .i64 n] w (RetRV F w (Val.rget v n)) := by
 obtain ⟨kd, nn, t, f, r, l, ps⟩ := v
 by_cases hk : kd = 3
 ·subst hk; rw [show Val.rget (.mk 3 nn t f r l ps) n = (Val.first f n).getD v0 from if_pos rfl]; exact rget_three F 3 nn t r f l ps n vc w hF hv
 ·rw [show Val.rget (.mk kd nn t f r l ps) n = v0 from if_neg hk]; exact rget_other F kd nn t r f l ps n vc w hF hv hk
open Val (V v0 right find look KP cmp Srt okP)
def Val.firstP (f : List (V × V)) (n : V) : Option V := (f.find? (fun e => decide (cmp e.1 n = 0))).map (·.2)
theorem Val.firstP_at {f : List (V × V)} {n : V} {k : Nat} (hk : k < f.length) (h : cmp f[k].1 n = 0) (ha : ∀ j (hj : j < k), cmp (f[j]'(by omega)).1 n ≠ 0) : Val.firstP f n = some f[k].2 := by
 unfold Val.firstP
 have : f.find? (fun e => decide (cmp e.1 n = 0)) = some f[k] := by
  rw [List.find?_eq_some_iff_getElem]
  exact ⟨by simpa using h, k, hk, rfl, fun j hj => by simpa using ha j hj⟩
 rw [this]; rfl
theorem Val.firstP_none {f : List (V × V)} {n : V} (ha : ∀ j (hj : j < f.length), cmp f[j].1 n ≠ 0) : Val.firstP f n = none := by
 unfold Val.firstP
 have : f.find? (fun e => decide (cmp e.1 n = 0)) = none := by
  rw [List.find?_eq_none]
  intro e he
  obtain ⟨j, hj, rfl⟩ := List.getElem_of_mem he
  simpa using ha j hj
 rw [this]; rfl
theorem Val.firstP_look {f : List (V × V)} {n : V} {kd : Int} (hs : Srt cmp (KP kd) f) (hn : KP kd n) : Val.firstP f n = look cmp f n := by
 cases h : Val.firstP f n with
 | some x =>
  unfold Val.firstP at h
  obtain ⟨e, he, rfl⟩ := Option.map_eq_some_iff.1 h
  have h1 := List.mem_of_find?_eq_some he
  have h2 : cmp e.1 n = 0 := by have := List.find?_some he; simpa using this
  have h3 : e.1 = n := ((Val.ordP kd).zero (hs.1 e h1) hn).1 h2
  have : (n, e.2) ∈ f := by rw [← h3]; exact h1
  exact (Val.mem_look (Val.ordP kd) hs this).symm
 | none =>
  cases h2 : look cmp f n with
  | none => rfl
  | some y =>
   have h3 := Val.look_mem (Val.ordP kd) hs hn h2
   unfold Val.firstP at h
   simp only [Option.map_eq_none_iff, List.find?_eq_none] at h
   exact absurd (h (n, y) h3) (by simp [Val.cmp_refl])
def Val.rfindV (v n : V) : V := if v.kind = 5 then (Val.firstP v.pairs n).getD v0 else v0
theorem rfind_five (F : List (Option Nat)) (kd nn : Int) (t r : ByteArray) (f : List (Int × V)) (l : List V) (ps : List (V × V)) (n : V) (vc nc : List Value) (w : World) (hF : ∀ k, some k ∈ F → k < w.heap.size) (hv : VR (fragE w F) (.mk 5 nn t f r l ps) vc) (hN : VR (fragE w F) n nc) :
  Calls Tryz.prog 49 #[.agg vc.toArray, .agg nc.toArray] w (RetRV F w ((Val.firstP ps n).getD v0)) := by
 have HN := Yq hN
 have HLn := Yq hN.len
 rw [VR] at hv
 obtain ⟨fv0, lv0, pv0, fe, le, pe, hxc, h2, ⟨h3, h4, h5⟩, h6, h7, h8⟩ := hv
 obtain ⟨a1, c1, e1, b1, b2, b3⟩ := h5.len
 subst e1
 have HX1 : Hid (FlatC 14 (fragE w F) (.slice a1 pe.length c1) pe ∧ PsR (fragE w F) ps pe) := ⟨h5, h8⟩
 have Hm1 := Yq h8.len
 have HC1 := Yq (fun (w2 : World) (g : Nat) (hB : Blk w2 g vc) => (show w2.cell? ⟨g, 0, none⟩ = some (.int .i64 5) ∧ w2.cell? ⟨g, 6, none⟩ = some (.slice a1 pe.length c1) by
  subst hxc; exact ⟨hB.cell rfl, hB.cell rfl⟩))
 obtain ⟨ns, hn⟩ : ∃ z, z = pe.length := ⟨_, rfl⟩
 rw [← hn] at HC1
 rw [← hn] at HX1
 have Hn := Yq hn.symm
 have hns : ns ≤ 9223372036854775807 := by unfold maxLen at b2; omega
 have HFw := Yq hF
 clear hxc h2 h3 h4 h5 h6 h7 h8 b1 b2 b3 hF hn hN
 go_enter Tryz.func49, Tryz.ntmps49
 go_wp2_with (first
  | (refine wpList_box_lay rfl 40 _ rfl vc rfl ?_; (intro w0 g1 hg1 hB1 hb0))
  | (refine wpList_box_lay rfl 40 _ rfl nc rfl ?_; (intro w1 gk hgk hBk hbk; replace hB1 := hB1.below hbk hB1.lt; replace hb0 := hb0.trans (hbk.mono hb0.size); clear hbk hgk hg1))
  | (refine wpList_alloc_lay rfl 40 rfl zV zeroRV ?_; (intro w2 g2 hg2 hB2 hb2; replace hB1 := hB1.below hb2 hB1.lt; replace hBk := hBk.below hb2 hBk.lt; replace hg2 := Nat.le_trans hb0.size hg2; replace hb0 := hb0.trans (hb2.mono hb0.size); clear hb2; obtain ⟨q0, q3⟩ := HC1.out _ _ hB1)))
 have Hb0 := Yq hb0
 have Hg : Hid (w.heap.size ≤ g2) := hg2
 have HB : Hid (Blk w2 g1 vc ∧ Blk w2 g2 zV ∧ Blk w2 gk nc) := ⟨hB1, hB2, hBk⟩
 clear q0 q3 hb0 hg2 hB1 hB2 hBk
 go_loopw [10] (fun i wr => ∃ (k : Nat), k ≤ ns ∧ i = .int .i64 k ∧ Hid (∀ j (hj : j < ps.length), j < k → cmp ps[j].1 n ≠ 0) ∧ Hid (Below w2.heap.size w2 wr)) (fun i _ => ns - (intOf i).toNat)
 case atStart => exact ⟨0, Nat.zero_le _, rfl, fun j h h2 => by omega, Below.refl _ _⟩
 case round =>
  obtain ⟨k, hkn, rfl, HI, HW⟩ := hrel
  have Hbw : Hid (Below w.heap.size w wr) := Hb0.out.trans (HW.out.mono Hb0.out.size)
  have hB1 := HB.out.1.below HW.out HB.out.1.lt
  have hB2 := HB.out.2.1.below HW.out HB.out.2.1.lt
  have hBk := HB.out.2.2.below HW.out HB.out.2.2.lt
  by_cases hlt : k < ns
  ·have hks : k < pe.length := by rw [Hn.out]; exact hlt
   have hkf : k < ps.length := by rw [← Hm1.out, Hn.out]; exact hlt
   obtain ⟨b0, o0, hb0, hidx, hcell⟩ := FlatC.at (n := ns) (cap := c1) (a := a1) (HX1.out.1.mono (fragE_le _ _)) (by decide) (i := k) hks Tryz.underlying38 sizeRP
   have hr : wr.rangeAt b0 o0 pe[k] := range_below hcell Hbw.out hb0
   obtain ⟨kc, exc, hx, rk, rx⟩ := HX1.out.2.at hkf hks
   rw [hx] at hr
   have HX : Hid (VR (fragE w F) ps[k].2 exc) := rx
   have HLx := Yq rx.len; have HLk := Yq rk.len
   have HL8 : Hid ((kc ++ exc).length = 14) := by show _ = _; rw [List.length_append, rk.len, rx.len]
   have H1 : Hid (∀ u ∈ kc ++ exc, u.oneCell' = true) := fun u hu => by
    rcases List.mem_append.1 hu with hu | hu
    ·exact rk.ones u hu
    ·exact rx.ones u hu
   have HBs := Yq (fun (w2 : World) (g : Nat) (hB : Blk w2 g (kc ++ exc)) => And.intro (show w2.rangeAt g 0 kc from hB.range (p := []) (q := kc) (r := exc) rfl rfl) (show w2.rangeAt g 7 exc from hB.range (p := kc) (q := exc) (r := []) (by simp) HLk.out))
   have HSm := Yq (fun (wx : World) (hb : Below w.heap.size w wx) => rsame_any ps[k].1 n kc nc wx ((rk.mono (fragE_le _ _)).mono (below_le hb)) ((HN.out.mono (fragE_le _ _)).mono (below_le hb)))
   have Hhit := Yq (fun (h : cmp ps[k].1 n = 0) => Val.firstP_at hkf h (fun j hj => HI.out j (by omega) hj))
   have Hnext : Hid (cmp ps[k].1 n ≠ 0 → ∀ j (hj : j < ps.length), j < k + 1 → cmp ps[j].1 n ≠ 0) := fun h j hj h2 => by
    by_cases e : j = k
    ·subst e; exact h
    ·exact HI.out j hj (by omega)
   clear hcell hx rx rk
   obtain ⟨q0, q3⟩ := HC1.out _ _ hB1
   clear q3
   generalize cmp ps[k].1 n = cc at *
   generalize ps[k].2 = ex at *
   have hBp := Yq (And.intro hB1 (And.intro hB2 hBk))
   clear hB1 hB2 hBk hkf hks
   go_upto_region 4 with ((first
    | (refine wpList_load_seg rfl 67 _ rfl _ _ rfl _ _ hr Tryz.underlying67 rfl (iC infoRP HL8) ?_)
    | (refine wpList_alloc_lay rfl 67 rfl (zV ++ zV) zeroRP ?_; (intro w4 g7 hg7 hB7 hb4; clear hr q0))
    | (refine wpList_store_all rfl 67 _ _ rfl _ (kc ++ exc) rfl rfl (zV ++ zV) hB7 ?_ ?_ ?_ ?_; (· exact iC infoRP HL8); (· exact HL8.out); (· exact H1.out); (intro w5 hB9 hgr5; have hb5 := Below.grown hb4 hgr5 hb4.size (fun _ e => by cases e; exact hg7); clear hb4 hgr5 hB7))))
   have Hb5 := Yq hb5
   have HB5 : Hid (Blk w5 g1 vc ∧ Blk w5 g2 zV ∧ Blk w5 gk nc) := ⟨hBp.out.1.below hb5 hBp.out.1.lt, hBp.out.2.1.below hb5 hBp.out.2.1.lt, hBp.out.2.2.below hb5 hBp.out.2.2.lt⟩
   obtain ⟨p0, p1⟩ := HBs.out _ _ hB9
   have HB9 := Yq hB9
   obtain ⟨q0, q3⟩ := HC1.out _ _ HB5.out.1
   have rk := HB5.out.2.2.whole
   have hbw5 : Below w.heap.size w w5 := Hbw.out.trans (Hb5.out.mono Hbw.out.size)
   have Hbw5 := Yq hbw5
   clear hb5 hg7 hB9 q3 hidx
   by_cases he : cc = 0
   ·rw [decide_eq_true he] at HSm
    have HV : Hid (∀ wz wE, Below w.heap.size w wz → wz.grownBy wE (some g2) → VR (fragE wE F) ex exc) := fun wz wE hb hg => by
     have hE : FLe (fragE w F) (fragE wE F) := (belowE (E' := some g2 :: F) hb (fun j hj => by
      rcases List.mem_cons.1 hj with hj | hj
      ·cases hj; exact .inr Hg.out
      ·exact .inl hj)).trans (grownE hg (.inr (by simp)) (fun j hj => .inl (by simp [hj])))
     exact HX.out.mono hE
    have HO := Yq HX.out.ones
    have HE0 := Yq he; clear he
    go_wp2_with (first
     | (refine wpList_load_seg rfl 40 _ rfl _ _ rfl _ _ p0 Tryz.underlying40 rfl (iC infoRV HLk) ?_)
     | (refine wpList_load_seg rfl 40 _ rfl _ _ rfl _ _ rk Tryz.underlying40 rfl (iC infoRV HLn) ?_)
     | (go_at_call 12; (with_reducible refine (HSm.out _ hbw5).mono ?_); rintro e w6 ⟨rfl, hb6⟩; have HB6 : Hid (Blk w6 g2 zV ∧ w6.rangeAt g7 7 exc) := ⟨HB5.out.2.1.below hb6 HB5.out.2.1.lt, range_below p1 hb6 HB9.out.lt⟩; have Hbw6 : Hid (Below w.heap.size w w6) := hbw5.trans (hb6.mono hbw5.size); have HW6 : Hid (Below w2.heap.size w2 w6) := HW.out.trans ((Hb5.out.trans (hb6.mono Hb5.out.size)).mono HW.out.size); clear p0 p1 rk hb6 hbw5 q0; have hB2 := HB6.out.1; have p1 := HB6.out.2)
     | (refine wpList_load_seg rfl 40 _ rfl _ _ rfl _ _ p1 Tryz.underlying40 rfl (iC infoRV HLx) ?_)
     | (refine wpList_store_all rfl 40 _ _ rfl g2 exc rfl rfl zV hB2 ?_ ?_ HO.out ?_; (· exact iC infoRV HLx); (· exact HLx.out); (intro wE hBE hgE; have hV := HV.out _ wE Hbw6.out hgE; have hbE := Below.grown Hbw6.out hgE Hbw6.out.size (fun _ e => by cases e; exact Hg.out); clear p1)))
    refine bodyPost_ret (v := .agg exc.toArray) ?_ rfl ⟨exc, rfl, ?_, hbE⟩
    ·exact results_blk rfl _ _ g2 exc rfl hBE _ Tryz.underlying40 rfl (iC infoRV HLx)
    ·rw [Hhit.out HE0.out]; exact hV
   ·rw [decide_eq_false he] at HSm
    have HNE := Yq he
    clear he
    go_wp2_with (first
     | (refine wpList_load_seg rfl 40 _ rfl _ _ rfl _ _ p0 Tryz.underlying40 rfl (iC infoRV HLk) ?_)
     | (refine wpList_load_seg rfl 40 _ rfl _ _ rfl _ _ rk Tryz.underlying40 rfl (iC infoRV HLn) ?_)
     | (go_at_call 12; (with_reducible refine (HSm.out _ hbw5).mono ?_); rintro e w6 ⟨rfl, hb6⟩; have HB6 : Hid (Blk w6 g2 zV ∧ w6.rangeAt g7 7 exc) := ⟨HB5.out.2.1.below hb6 HB5.out.2.1.lt, range_below p1 hb6 HB9.out.lt⟩; have Hbw6 : Hid (Below w.heap.size w w6) := hbw5.trans (hb6.mono hbw5.size); have HW6 : Hid (Below w2.heap.size w2 w6) := HW.out.trans ((Hb5.out.trans (hb6.mono Hb5.out.size)).mono HW.out.size); clear p0 p1 rk hb6 hbw5 q0; have hB2 := HB6.out.1; have p1 := HB6.out.2))
    go_roundw
    case rel => exact ⟨k + 1, by omega, by go_num, Hnext.out HNE.out, HW6.out⟩
    case measure => simp [intOf]; omega
  ·obtain rfl : k = ns := by omega
   have hNone : Hid (Val.firstP ps n = none) := Val.firstP_none (fun j hj => HI.out j hj (by rw [← Hn.out, Hm1.out]; exact hj))
   have hbw := Hbw.out
   clear HI HW hlt
   go_wp2_with (first
    | (refine wpList_store_all rfl 40 _ _ rfl g2 zV rfl rfl zV hB2 infoRV rfl zV1 ?_; (intro wE hBE hgE; have hbE := Below.grown hbw hgE hbw.size (fun _ e => by cases e; exact Hg.out))))
   refine bodyPost_ret (v := .agg zV.toArray) ?_ rfl ⟨zV, rfl, ?_, hbE⟩
   ·exact results_blk rfl _ _ g2 zV rfl hBE _ Tryz.underlying40 rfl infoRV
   ·rw [hNone.out]; exact v0_VR _
theorem rfind_other (F : List (Option Nat)) (kd nn : Int) (t r : ByteArray) (f : List (Int × V)) (l : List V) (ps : List (V × V)) (n : V) (vc nc : List Value) (w : World) (hF : ∀ k, some k ∈ F → k < w.heap.size) (hv : VR (fragE w F) (.mk kd nn t f r l ps) vc) (hN : VR (fragE w F) n nc) (hk : ¬ kd = 5) :
  Calls Tryz.prog 49 #[.agg vc.toArray, .agg nc.toArray] w (RetRV F w (v0)) := by
 have HN := Yq hN
 have HLn := Yq hN.len
 rw [VR] at hv
 obtain ⟨fv0, lv0, pv0, fe, le, pe, hxc, h2, ⟨h3, h4, h5⟩, h6, h7, h8⟩ := hv
 obtain ⟨a1, c1, e1, b1, b2, b3⟩ := h5.len
 subst e1
 have HX1 : Hid (FlatC 14 (fragE w F) (.slice a1 pe.length c1) pe ∧ PsR (fragE w F) ps pe) := ⟨h5, h8⟩
 have Hm1 := Yq h8.len
 have HC1 := Yq (fun (w2 : World) (g : Nat) (hB : Blk w2 g vc) => (show w2.cell? ⟨g, 0, none⟩ = some (.int .i64 kd) ∧ w2.cell? ⟨g, 6, none⟩ = some (.slice a1 pe.length c1) by
  subst hxc; exact ⟨hB.cell rfl, hB.cell rfl⟩))
 obtain ⟨ns, hn⟩ : ∃ z, z = pe.length := ⟨_, rfl⟩
 rw [← hn] at HC1
 rw [← hn] at HX1
 have Hn := Yq hn.symm
 have hns : ns ≤ 9223372036854775807 := by unfold maxLen at b2; omega
 have HFw := Yq hF
 have hd1 : decide (kd = 5) = false := decide_eq_false hk
 have hd2 : (kd == 5) = false := by simpa using hk
 clear hxc h2 h3 h4 h5 h6 h7 h8 b1 b2 b3 hF hn hN hk
 go_enter Tryz.func49, Tryz.ntmps49
 go_wp2_with (first
  | (refine wpList_box_lay rfl 40 _ rfl vc rfl ?_; (intro w0 g1 hg1 hB1 hb0))
  | (refine wpList_box_lay rfl 40 _ rfl nc rfl ?_; (intro w1 gk hgk hBk hbk; replace hB1 := hB1.below hbk hB1.lt; replace hb0 := hb0.trans (hbk.mono hb0.size); clear hbk hgk hg1))
  | (refine wpList_alloc_lay rfl 40 rfl zV zeroRV ?_; (intro w2 g2 hg2 hB2 hb2; replace hB1 := hB1.below hb2 hB1.lt; replace hBk := hBk.below hb2 hBk.lt; replace hg2 := Nat.le_trans hb0.size hg2; replace hb0 := hb0.trans (hb2.mono hb0.size); clear hb2; obtain ⟨q0, q3⟩ := HC1.out _ _ hB1)))
 have Hb0 := Yq hb0
 have Hg : Hid (w.heap.size ≤ g2) := hg2
 have HB : Hid (Blk w2 g1 vc ∧ Blk w2 g2 zV ∧ Blk w2 gk nc) := ⟨hB1, hB2, hBk⟩
 clear q0 q3 hb0 hg2 hB1 hB2 hBk
 go_loopw [10] (fun i wr => ∃ (k : Nat), k ≤ ns ∧ i = .int .i64 k ∧ Hid True ∧ Hid (Below w2.heap.size w2 wr)) (fun i _ => ns - (intOf i).toNat)
 case atStart => exact ⟨0, Nat.zero_le _, rfl, trivial, Below.refl _ _⟩
 case round =>
  obtain ⟨k, hkn, rfl, HI, HW⟩ := hrel
  have Hbw : Hid (Below w.heap.size w wr) := Hb0.out.trans (HW.out.mono Hb0.out.size)
  have hB1 := HB.out.1.below HW.out HB.out.1.lt
  have hB2 := HB.out.2.1.below HW.out HB.out.2.1.lt
  have hBk := HB.out.2.2.below HW.out HB.out.2.2.lt
  by_cases hlt : k < ns
  ·have hks : k < pe.length := by rw [Hn.out]; exact hlt
   have hkf : k < ps.length := by rw [← Hm1.out, Hn.out]; exact hlt
   obtain ⟨b0, o0, hb0, hidx, hcell⟩ := FlatC.at (n := ns) (cap := c1) (a := a1) (HX1.out.1.mono (fragE_le _ _)) (by decide) (i := k) hks Tryz.underlying38 sizeRP
   have hr : wr.rangeAt b0 o0 pe[k] := range_below hcell Hbw.out hb0
   obtain ⟨kc, exc, hx, rk, rx⟩ := HX1.out.2.at hkf hks
   rw [hx] at hr
   have HX : Hid (VR (fragE w F) ps[k].2 exc) := rx
   have HLx := Yq rx.len; have HLk := Yq rk.len
   have HL8 : Hid ((kc ++ exc).length = 14) := by show _ = _; rw [List.length_append, rk.len, rx.len]
   have H1 : Hid (∀ u ∈ kc ++ exc, u.oneCell' = true) := fun u hu => by
    rcases List.mem_append.1 hu with hu | hu
    ·exact rk.ones u hu
    ·exact rx.ones u hu
   have HBs := Yq (fun (w2 : World) (g : Nat) (hB : Blk w2 g (kc ++ exc)) => And.intro (show w2.rangeAt g 0 kc from hB.range (p := []) (q := kc) (r := exc) rfl rfl) (show w2.rangeAt g 7 exc from hB.range (p := kc) (q := exc) (r := []) (by simp) HLk.out))
   have HSm := Yq (fun (wx : World) (hb : Below w.heap.size w wx) => rsame_any ps[k].1 n kc nc wx ((rk.mono (fragE_le _ _)).mono (below_le hb)) ((HN.out.mono (fragE_le _ _)).mono (below_le hb)))
   clear hcell hx rx rk
   obtain ⟨q0, q3⟩ := HC1.out _ _ hB1
   clear q3
   generalize cmp ps[k].1 n = cc at *
   generalize ps[k].2 = ex at *
   have hBp := Yq (And.intro hB1 (And.intro hB2 hBk))
   clear hB1 hB2 hBk hkf hks
   go_upto_region 4 with ((first
    | (refine wpList_load_seg rfl 67 _ rfl _ _ rfl _ _ hr Tryz.underlying67 rfl (iC infoRP HL8) ?_)
    | (refine wpList_alloc_lay rfl 67 rfl (zV ++ zV) zeroRP ?_; (intro w4 g7 hg7 hB7 hb4; clear hr q0))
    | (refine wpList_store_all rfl 67 _ _ rfl _ (kc ++ exc) rfl rfl (zV ++ zV) hB7 ?_ ?_ ?_ ?_; (· exact iC infoRP HL8); (· exact HL8.out); (· exact H1.out); (intro w5 hB9 hgr5; have hb5 := Below.grown hb4 hgr5 hb4.size (fun _ e => by cases e; exact hg7); clear hb4 hgr5 hB7))))
   have Hb5 := Yq hb5
   have HB5 : Hid (Blk w5 g1 vc ∧ Blk w5 g2 zV ∧ Blk w5 gk nc) := ⟨hBp.out.1.below hb5 hBp.out.1.lt, hBp.out.2.1.below hb5 hBp.out.2.1.lt, hBp.out.2.2.below hb5 hBp.out.2.2.lt⟩
   obtain ⟨p0, p1⟩ := HBs.out _ _ hB9
   have HB9 := Yq hB9
   obtain ⟨q0, q3⟩ := HC1.out _ _ HB5.out.1
   have rk := HB5.out.2.2.whole
   have hbw5 : Below w.heap.size w w5 := Hbw.out.trans (Hb5.out.mono Hbw.out.size)
   have Hbw5 := Yq hbw5
   clear hb5 hg7 hB9 q3 hidx
   have HW6 := Yq (HW.out.trans (Hb5.out.mono HW.out.size))
   go_wp2_with fail
   go_roundw
   case rel => exact ⟨k + 1, by omega, by go_num, trivial, HW6.out⟩
   case measure => simp [intOf]; omega
  ·obtain rfl : k = ns := by omega
   have hNone : Hid (True) := trivial
   have hbw := Hbw.out
   clear HI HW hlt
   go_wp2_with (first
    | (refine wpList_store_all rfl 40 _ _ rfl g2 zV rfl rfl zV hB2 infoRV rfl zV1 ?_; (intro wE hBE hgE; have hbE := Below.grown hbw hgE hbw.size (fun _ e => by cases e; exact Hg.out))))
   refine bodyPost_ret (v := .agg zV.toArray) ?_ rfl ⟨zV, rfl, ?_, hbE⟩
   ·exact results_blk rfl _ _ g2 zV rfl hBE _ Tryz.underlying40 rfl infoRV
   ·exact v0_VR _
theorem rfind_any (F : List (Option Nat)) (v n : V) (vc nc : List Value) (w : World) (hF : ∀ k, some k ∈ F → k < w.heap.size) (hv : VR (fragE w F) v vc) (hN : VR (fragE w F) n nc) :
  Calls Tryz.prog 49 #[.agg vc.toArray, .agg nc.toArray] w (RetRV F w (Val.rfindV v n)) := by
 obtain ⟨kd, nn, t, f, r, l, ps⟩ := v
 by_cases hk : kd = 5
 ·subst hk; rw [show Val.rfindV (.mk 5 nn t f r l ps) n = (Val.firstP ps n).getD v0 from if_pos rfl]; exact rfind_five F 5 nn t r f l ps n vc nc w hF hv hN
 ·rw [show Val.rfindV (.mk kd nn t f r l ps) n = v0 from if_neg hk]; exact rfind_other F kd nn t r f l ps n vc nc w hF hv hN hk
end Go.Proofs.YtebekgdjknenlaaGreatDoor
namespace Go.Proofs.YtebekgdjknenlaaGreatDoor.Val
section
variable {κ : Type} {c : κ → κ → Int} {K : κ → Prop}
def gl (c : κ → κ → Int) (n : κ) (x : V) : List (κ × V) → Bool → List (κ × V)
 | [], d => if d then [] else [(n, x)]
 | f :: r, d => (if d = false ∧ 0 ≤ c f.1 n then [(n, x)] else []) ++ ((if c f.1 n = 0 then [] else [f]) ++ gl c n x r (d || decide (0 ≤ c f.1 n)))
theorem gl_done {n : κ} {x : V} : ∀ {r : List (κ × V)}, (∀ e ∈ r, c e.1 n ≠ 0) → gl c n x r true = r
 | [], _ => by simp [gl]
 | f :: r, h => by
  have := gl_done (n := n) (x := x) (r := r) (fun e he => h e (by simp [he]))
  simp [gl, h f (by simp), this]
theorem gl_ins (O : Ord c K) {n : κ} {x : V} (hn : K n) : ∀ {r : List (κ × V)}, Srt c K r → gl c n x r (decide (x.kind = 0)) = ins c r n x
 | [], _ => by
  rw [gl, ins]
  by_cases h : x.kind = 0 <;> simp [h]
 | (m, y) :: r, hs => by
  have hm : K m := hs.1 (m, y) (by simp)
  have hrest : ∀ e ∈ r, K e.1 ∧ c m e.1 < 0 := fun e he => ⟨hs.1 e (by simp [he]), (List.pairwise_cons.1 hs.2).1 e he⟩
  rw [gl, ins]
  simp only
  by_cases h1 : c m n < 0
  ·have h2 : ¬ 0 ≤ c m n := by omega
   have h3 : ¬ c m n = 0 := by omega
   rw [if_pos h1]
   simp [h2, h3, gl_ins O hn (Srt.tail O hs)]
  ·have h2 : 0 ≤ c m n := by omega
   have hne : ∀ e ∈ r, c e.1 n ≠ 0 := fun e he h0 => by
    obtain ⟨hK, hlt⟩ := hrest e he
    have e1 := (O.zero hK hn).1 h0
    rw [e1] at hlt; exact h1 hlt
   rw [if_neg h1]
   by_cases h3 : c m n = 0
   ·rw [if_pos h3]
    by_cases h : x.kind = 0 <;> simp [h, h3, gl_done hne]
   ·rw [if_neg h3]
    by_cases h : x.kind = 0 <;> simp [h, h2, h3, gl_done hne]
theorem gl_len {n : κ} {x : V} : ∀ (r : List (κ × V)) (d : Bool), (gl c n x r d).length ≤ 2 * r.length + 1
 | [], d => by cases d <;> simp [gl]
 | f :: r, d => by
  have h := gl_len (n := n) (x := x) r (d || decide (0 ≤ c f.1 n))
  rw [gl, List.length_append, List.length_append, List.length_cons]
  have h1 : (if d = false ∧ 0 ≤ c f.1 n then [(n, x)] else []).length ≤ 1 := by split <;> simp
  have h2 : (if c f.1 n = 0 then [] else [f]).length ≤ 1 := by split <;> simp
  omega
theorem gl_cons (n : κ) (x : V) {r : List (κ × V)} {k : Nat} (hk : k < r.length) (d : Bool) : gl c n x (r.drop k) d = (if d = false ∧ 0 ≤ c r[k].1 n then [(n, x)] else []) ++ ((if c r[k].1 n = 0 then [] else [r[k]]) ++ gl c n x (r.drop (k + 1)) (d || decide (0 ≤ c r[k].1 n))) := by
 rw [List.drop_eq_getElem_cons hk, gl]
end
theorem ocmp_nn {a b : Int} : 0 ≤ ocmp a b ↔ b ≤ a := by unfold ocmp; split <;> (try split) <;> constructor <;> intro h <;> omega
def rwithV (v : V) (n : Int) (x : V) : V := if v.kind = 3 ∧ (1 ≤ n ∧ n ≤ 536870911) then mkM (gl ocmp n x v.fields (decide (x.kind = 0))) v.rest else v
theorem rwithV_eq {v x : V} {n : Int} (hr : right v = true) (hk : v.kind = 3) (hn : KI n) : rwithV v n x = withV v n x := by
 unfold rwithV
 rw [if_pos ⟨hk, hn⟩, with_ins x hr hk hn, gl_ins ordI hn (srt_fields hr hk).1]
def rputV (v k x : V) : V := if v.kind = 5 ∨ v.kind = 0 then mkP (gl cmp k x v.pairs (decide (x.kind = 0))) else v
theorem rputV_eq {v k x : V} {kd : Int} (hv : KeysOf kd v) (hk : KP kd k) : rputV v k x = putV v k x := by
 unfold rputV
 rw [if_pos hv.1, put_ins x hv.1, gl_ins (ordP kd) hk hv.2.1]
end Go.Proofs.YtebekgdjknenlaaGreatDoor.Val
