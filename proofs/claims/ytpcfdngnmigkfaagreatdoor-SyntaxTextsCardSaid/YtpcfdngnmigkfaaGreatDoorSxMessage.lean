/- Package syntax, walked: messages. -/
import Derived.Test.YtpcfdngnmigkfaaGreatDoorSxPart
set_option linter.unusedVariables false
set_option linter.unusedSimpArgs false
namespace Go.Proofs.YtpcfdngnmigkfaaGreatDoor
open Go.RowKit
theorem MAt.whole2 {A : Nat → Addr} {p B gm g : Nat} {v : Value} {ts : List Lx.Tok} {w0 w w' : World} {s : Sx.St} {m : MV} (h : MAt A p B gm v ts w0 s m w) (hg : w.grownBy w' (some g)) (hgB : g < B) {N : Nat} (hN : N ≤ B) : MsgR (fragU w' N []) m.msg m.cells := by
 have hX : ∀ k, some g = some k → k < B := fun k e => by cases e; exact hgB
 have hr := h.rows.grown hg hX
 have hle0 : FLe (fragU w B (obs m.rows)) (fragU w' B (obs m.rows)) := fragU_grown hg (fun k e => .inl (hX k e)) (fun k hk => .inl hk)
 have hle : FLe (fragU w' B (obs m.rows)) (fragU w' N []) := (fragU_sub w' B (E' := []) (fun k hk => by cases hk)).trans (fragU_down w' hN (fun k hk => by cases hk))
 unfold MV.msg
 rw [MsgR]
 exact ⟨m.v1, m.v2, m.v3, m.v4, m.v5, m.v6, m.mss, m.ess, rfl, ⟨⟨FlatV.of_ownsU (hr.own m.r1 (by simp [MV.rows])) hN, h.few h.fit.f1⟩, ⟨FlatV.of_ownsU (hr.own m.r2 (by simp [MV.rows])) hN, h.few h.fit.f2⟩, ⟨FlatC.of_ownsU (hr.own m.r3 (by simp [MV.rows])) hN h.rm.sizes, h.few h.fit.f3⟩, ⟨FlatC.of_ownsU (hr.own m.r4 (by simp [MV.rows])) hN h.re.sizes, h.few h.fit.f4⟩, ⟨FlatV.of_ownsU (hr.own m.r5 (by simp [MV.rows])) hN, h.few h.fit.f5⟩, ⟨FlatV.of_ownsU (hr.own m.r6 (by simp [MV.rows])) hN, h.few h.fit.f6⟩⟩, (h.rm.mono hle0).mono hle, (h.re.mono hle0).mono hle⟩
theorem msg_build (a b : Int) (t : ByteArray) (w : World) : (Instr.build 45 #[(0, .string t), (7, .int .i64 a), (8, .int .i64 b)]).run Tryz.prog w = .ok (.agg #[.string t, .slice none 0 0, .slice none 0 0, .slice none 0 0, .slice none 0 0, .slice none 0 0, .slice none 0 0, .int .i64 a, .int .i64 b]) w := by kernel_rfl
def mv0 (x : Lx.Tok) : MV := ⟨x.text, x.line, x.col, .slice none 0 0, .slice none 0 0, .slice none 0 0, .slice none 0 0, .slice none 0 0, .slice none 0 0, [], [], [], [], [], [], [], []⟩
theorem mv0_rows (x : Lx.Tok) : ∀ r ∈ (mv0 x).rows, r.v = .slice none 0 0 ∧ r.n = 0 ∧ r.xs = [] := by
 intro r hr
 simp only [MV.rows, MV.r1, MV.r2, MV.r3, MV.r4, MV.r5, MV.r6, mv0, List.mem_cons, List.not_mem_nil, or_false] at hr
 rcases hr with rfl | rfl | rfl | rfl | rfl | rfl <;> exact ⟨rfl, rfl, rfl⟩
theorem mv0_ones (x : Lx.Tok) : ∀ u ∈ (mv0 x).cells, u.oneCell' = true := by
 intro u hu
 simp only [MV.cells, mv0, List.mem_cons, List.not_mem_nil, or_false] at hu
 rcases hu with rfl | rfl | rfl | rfl | rfl | rfl | rfl | rfl | rfl <;> rfl
set_option maxHeartbeats 16000000 in
set_option maxRecDepth 100000 in
theorem message_step (A : Nat → Addr) (p : Nat) (v : Value) (ts : List Lx.Tok) (N : Nat) (ih : ∀ k < N, MsgAtN A p v ts k) : MsgAtN A p v ts N := by
 intro deep s w hd hE hP hF
 have Hv := Yq hE; have Hp := Yq hP; have Hplt := Yq hP.lt; have HFu := Yq hF; have Hih := Yq ih
 have Hsm := Yq hE.small
 obtain ⟨R, hR⟩ : ∃ R, R = Sx.messageBy ts (Sx.parts ts N) deep s := ⟨_, rfl⟩
 rw [← hR]
 unfold Sx.messageBy at hR
 have HR := Yq hR
 have hbd := msg_build
 have hdI : (deep : Int) ≤ 8 := by omega
 clear hR hE hP hF hd ih
 go_enter Tryz.func26, Tryz.ntmps26
 go_upto_region 1 with (first
  | (refine wpList_alloc_lay rfl 45 rfl zMs zeroMs ?_; (intro w1 gr hgr hBr hb1)))
 have HE1 := Yq (Hv.out.below (hb1.mono (Nat.le_of_lt Hplt.out)))
 have HN := Yq (name_arr A p v ts s w1 HE1.out.vars (Hp.out.below hb1))
 have Hb1 := Yq hb1; have HBr := Yq hBr; have Hgr := Yq hgr
 have Hne := Yq (show p < gr from Nat.lt_of_lt_of_le Hplt.out hgr)
 clear hb1 hBr hgr
 obtain ⟨N1, hN⟩ : ∃ N1, N1 = Sx.of ts 1 s := ⟨_, rfl⟩
 have Hofg := Yq (Sx.of_go ts 1 s)
 rw [← hN] at HN Hofg
 replace HR := HR.out
 rw [← hN] at HR
 replace HR := Yq HR
 obtain ⟨x, s1⟩ := N1
 simp only at HN Hofg
 replace HR : Hid (R = Sx.parts ts N deep (.mk x.text [] [] [] [] [] [] x.line x.col) (Sx.sign ts 123 (Sx.deepAt deep x s1))) := HR
 clear hN
 go_upto_region 2 with (first
  | (go_at_call 52; (with_reducible refine HN.out.mono ?_); rintro e w2 ⟨rfl, hp2, hk2⟩; have HE2 := Yq (HE1.out.kept hk2 (Nat.lt_of_lt_of_le Hplt.out Hb1.out.size) (fun k hm => by rw [List.mem_singleton.1 hm]; exact Nat.le_refl _)); have HP2 := Yq hp2; have HK2 := Yq ((Kept.of_below Hb1.out).trans hk2); have HBr2 := Yq (hk2.blk HBr.out (by have := Hne.out; simp; omega)); clear hp2 hk2)
  | (refine wpList_alloc_lay rfl 80 rfl zT zeroT ?_; (intro w3 g5 hg5 hB5 hb3))
  | (refine wpList_store_all rfl 80 _ _ rfl g5 (tC x) rfl rfl zT hB5 infoT rfl (one_tC x) ?_; (intro w4 hB6 hgr4; have hb4 := Below.grown hb3 hgr4 hb3.size (fun _ e => by cases e; exact hg5); clear hb3 hgr4 hB5)))
 have d1 : w4.cell? ⟨g5, 1, none⟩ = some (.string (toB x.text)) := hB6.cell (o := 1) rfl
 have d3 : w4.cell? ⟨g5, 3, none⟩ = some (.int .i64 x.line) := hB6.cell (o := 3) rfl
 have d4 : w4.cell? ⟨g5, 4, none⟩ = some (.int .i64 x.col) := hB6.cell (o := 4) rfl
 have Hb4 := Yq hb4; have HB5 := Yq hB6
 clear hB6 hg5 hb4
 go_upto_region 3 with (first
  | (refine wpList_alloc_lay rfl 45 rfl zMs zeroMs ?_; (intro w5 gm hgm hBv hb5))
  | (refine wpList_store_all rfl 45 _ _ rfl gm (mv0 x).cells rfl rfl zMs hBv infoMs rfl (mv0_ones x) ?_; (intro w6 hB6 hgr6; have hb6 := Below.grown hb5 hgr6 hb5.size (fun _ e => by cases e; exact hgm); clear hb5 hgr6 hBv)))
 have HB56 := Yq (HB5.out.below hb6 HB5.out.lt)
 have Hb6 : Hid (Below w2.heap.size w2 w6) := Yq (Hb4.out.trans (hb6.mono Hb4.out.size))
 have hgm2 : w2.heap.size ≤ gm := Nat.le_trans Hb4.out.size hgm
 have Hgm : Hid (Blk w6 gr zMs ∧ w.heap.size ≤ gm ∧ w.heap.size ≤ gr ∧ gr ≠ gm ∧ p < gm ∧ p < gr) := Yq ⟨HBr2.out.below Hb6.out HBr2.out.lt, Nat.le_trans HK2.out.size hgm2, Hgr.out, fun e => by have := HBr2.out.lt; omega, by have := Hplt.out; have := HK2.out.size; omega, Hne.out⟩
 have HK6 : Hid (Kept [p] w w6) := Yq (HK2.out.trans (Kept.of_below Hb6.out))
 have H6 : Hid (MAt A p w6.heap.size gm v ts w6 s1 (mv0 x) w6) := Yq ⟨HP2.out.below Hb6.out, HE2.out.below (Hb6.out.mono (by have := Hplt.out; have := HK2.out.size; omega)), hB6, Rows.nil _ _ _ (mv0_rows x), by show MsgsR _ [] []; rw [MsgsR], by show EnsR _ [] []; rw [EnsR], KeptB.refl _ _ _, ⟨Hgm.out.2.2.2.2.1, hB6.lt, Nat.le_refl _⟩, ⟨Sx.Fit.zero _, Sx.Fit.zero _, Sx.Fit.zero _, Sx.Fit.zero _, Sx.Fit.zero _, Sx.Fit.zero _⟩⟩
 clear hB6 hgm hgm2 hb6 d1 d3 d4 HB5
 obtain ⟨ev, cp, c2, f1, f2, hn0, hn1, hl, hcm⟩ := H6.out.par.cells
 by_cases he : s1.err = none
 ·have := hn0 he
  subst this
  have Hen := Yq he
  by_cases h8 : 8 ≤ deep
  ·have h8I : (8 : Int) ≤ (deep : Int) := by omega
   obtain ⟨sd, hsd⟩ : ∃ z, z = Sx.deepAt deep x s1 := ⟨_, rfl⟩
   have HRd := HR.out
   rw [← hsd] at HRd
   have HRd := Yq HRd
   have hsd2 : sd = ⟨s1.pos, some (8, x.line, x.col)⟩ := by rw [hsd]; unfold Sx.deepAt; rw [he, if_neg (by decide), if_pos h8]
   have Hsd : Hid (Sx.GoesN 1 s sd) := Yq (fun e => by rw [hsd2] at e; cases e)
   have Hdp : Hid (sd.err = none → deep < 8) := Yq (fun e => by rw [hsd2] at e; cases e)
   have Hsd2 := Yq hsd2
   have d3 : w6.cell? ⟨g5, 3, none⟩ = some (.int .i64 x.line) := HB56.out.cell (o := 3) rfl
   have d4 : w6.cell? ⟨g5, 4, none⟩ = some (.int .i64 x.col) := HB56.out.cell (o := 4) rfl
   have hdep := H6.out.env.depth
   unfold errV at hdep
   obtain ⟨ev5, hB5, hE5, _, hl5⟩ := H6.out.par
   rw [he] at hE5
   have hE5 : ev5 = .nilIface := hE5
   subst hE5
   clear hsd hsd2 hn0 hn1 he hl h8 cp f1
   go_upto_region 5 with (first
    | (refine wpList_box_layT rfl 75 _ rfl [.int .i64 x.line, .int .i64 x.col, .iface 216 (.pointer (some (A 7)))] rfl ?_; (intro w7 g6 hg6 hB6 hb6; have HBp := hB5.below hb6 hB5.lt; clear c2 d3 d4 hdep))
    | (refine wpList_store_blk1 rfl 28 _ _ rfl p 2 (.iface 73 (.pointer (some ⟨g6, 0, none⟩))) rfl rfl _ HBp rfl ?_ rfl ?_; (· show 2 + 1 ≤ 3; decide); (intro w8 hB8 hgr8 hsz8)))
   have hne6 : g6 ≠ p := fun e => by have := hB5.lt; omega
   have hk8 : Kept [p] w6 w8 := (Kept.of_below hb6).trans (Kept.of_grown hgr8 (by simp))
   have hE8 := H6.out.env.kept hk8 H6.out.par.lt (fun k hm => by rw [List.mem_singleton.1 hm]; exact Nat.le_refl _)
   have hp8 : Par A p v ts sd w8 := Par.again (ev := .iface 73 (.pointer (some ⟨g6, 0, none⟩))) hE8 (by rw [Hsd2.out]; exact hB8) (by rw [Hsd2.out]; exact ⟨g6, rfl, hB6.grown hgr8 (fun e => hne6 (Option.some.inj e)), hne6⟩) (by rw [Hsd2.out]; exact hl5)
   have H8 := Yq (H6.out.call hp8 hk8 (fun e => by rw [Hsd2.out] at e; cases e))
   clear hB5 hg6 hB6 hb6 HBp hB8 hgr8 hsz8 hne6 hk8 hE8 hp8 f2
   have HS := Yq (sign_any A p 123 v ts sd w8 H8.out.env.vars H8.out.env.glt H8.out.par)
   go_wp2_with fail
   refine HS.out.mono ?_
   rintro e w17 ⟨rfl, hp17, hk17⟩
   have H17 := Yq (H8.out.call hp17 hk17 ((Sx.sign_go ts 123 sd).mono (by omega)))
   clear hp17 hk17
   have Hs7 : Hid ((Sx.sign ts 123 sd).err = none → deep < 8 ∧ ts.length + 2 ≤ (Sx.sign ts 123 sd).pos + N) := Yq (fun e => by
    have h1 := Sx.sign_go ts 123 sd e
    have h2 := Hsd.out h1.1
    have h3 := HFu.out h2.1
    exact ⟨Hdp.out h1.1, by omega⟩)
   generalize Sx.sign ts 123 sd = s7 at *
   go_wp2_with fail
   go_loopg [] N (fun n wr => ∃ (m' : MV) (s' : Sx.St), Hid (MAt A p w6.heap.size gm v ts w6 s' m' wr) ∧ Hid (R = Sx.parts ts n deep m'.msg s') ∧ Hid (s'.err = none → ts.length + 2 ≤ s'.pos + n) ∧ Hid (s'.err = none → deep < 8) ∧ n ≤ N)
   case atStart => exact ⟨mv0 x, s7, H17, HRd, Yq (fun e => (Hs7.out e).2), Yq (fun e => (Hs7.out e).1), Nat.le_refl _⟩
   case round =>
    obtain ⟨m3, s2, HA, HRn, HF, HD, hnN⟩ := hrel
    have HM := Yq (more_any A p v ts s2 wr HA.out.par)
    have Hmg := Yq (Sx.more_go ts s2)
    have Hst := Yq (Sx.parts_step ts HRn.out HF.out (by obtain ⟨_, _, _, _, h3⟩ := HA.out.par; exact h3))
    clear HRn HF HR HRd Hs7
    generalize Sx.more ts s2 = M at *
    obtain ⟨b, s3⟩ := M
    simp only at HM Hmg Hst
    cases b
    ·have HEnd := Yq (Hst.out.1 rfl)
     clear Hst
     go_wp2_with fail
     refine HM.out.mono ?_
     rintro e w20 ⟨rfl, hp20, hk20⟩
     have H20 := Yq (HA.out.call hp20 hk20 (Hmg.out))
     clear hp20 hk20
     have HBl := H20.out.blk.whole
     have HK9 := Yq (H20.out.kept.kept (Nat.le_refl _))
     have HBr := HK9.out.blk Hgm.out.1 (by have := Hgm.out; simp; omega)
     go_wp2_with (first
      | (refine wpList_load_seg rfl 45 _ rfl _ _ rfl _ _ HBl Tryz.underlying45 rfl infoMs ?_)
      | (refine wpList_store_all rfl 45 _ _ rfl gr m3.cells rfl rfl zMs HBr infoMs rfl H20.out.ones ?_; (intro w30 hB30 hgr30)))
     rw [HEnd.out]
     refine bodyPost_ret (v := .agg m3.cells.toArray) ?_ rfl ⟨_, rfl, H20.out.whole2 hgr30 Hgm.out.1.lt HK6.out.size, (Par.wrote H20.out.env H20.out.par HBr (by decide) hgr30 Hgm.out.2.2.2.2.2).1, ((HK6.out.trans2 HK9.out Hgm.out.2.1).then_new hgr30 Hgm.out.2.2.1)⟩
     exact results_blk (p := 4) (ty := 45) rfl _ _ gr m3.cells rfl hB30 _ Tryz.underlying45 rfl infoMs
    ·obtain ⟨n, hn, hO2, hnone, hfuel⟩ := Hst.out.2 rfl
     subst hn
     have HO2 := Yq hO2; have Hnone := Yq hnone; have Hfuel := Yq hfuel
     clear Hst hO2 hnone hfuel
     go_wp2_with fail
     refine HM.out.mono ?_
     rintro e w20 ⟨rfl, hp20, hk20⟩
     have H20 := Yq (HA.out.call hp20 hk20 (Hmg.out))
     clear hp20 hk20
     have HMn := Yq (Hih.out n (by omega))
     have Hpg := Yq (Sx.part_go ts (B := Sx.parts ts n) (Sx.parts_go ts n) deep m3.msg s3)
     have HPt := Yq (part_any A p w6.heap.size gm n deep v ts s3 m3 w20 w6 HMn.out (HD.out (Hmg.out Hnone.out).1) Hnone.out (by have := Hfuel.out; omega) H20.out)
     generalize Sx.part ts (Sx.parts ts n) deep m3.msg s3 = X at *
     obtain ⟨pm, s4⟩ := X
     simp only at HO2 Hpg
     unfold MsgPartPost at HPt
     simp only at HPt
     go_wp2_with fail
     refine HPt.out.mono ?_
     rintro e w31 ⟨rfl, m', hm', h31⟩
     have HMm := Yq hm'; have H31 := Yq h31
     clear hm' h31
     go_wp2_with fail
     go_roundg n
     case measure => omega
     case rel =>
      refine ⟨m', s4, H31, Yq (by rw [HO2.out, HMm.out]), Yq (fun he3 => ?_), Yq (fun _ => HD.out (Hmg.out Hnone.out).1), by omega⟩
      have h1 := (Hpg.out he3).2
      have h2 := Hfuel.out
      omega
  ·have h8I : ¬ (8 : Int) ≤ (deep : Int) := by omega
   have h8J : (deep : Int) < 8 := by omega
   have hdA : Sx.deepAt deep x s1 = s1 := by unfold Sx.deepAt; rw [he, if_neg (by decide), if_neg h8]
   have HRd : Hid (R = Sx.parts ts N deep (.mk x.text [] [] [] [] [] [] x.line x.col) (Sx.sign ts 123 s1)) := Yq (by have h1 := HR.out; rw [hdA] at h1; exact h1)
   have Hsd : Hid (Sx.GoesN 1 s s1) := Yq Hofg.out
   have Hdp : Hid (s1.err = none → deep < 8) := Yq (fun _ => by omega)
   clear hn0 hn1 he hl h8 cp f1 hdA
   go_upto_region 5 with fail
   clear c2 f2
   have HS := Yq (sign_any A p 123 v ts s1 w6 H6.out.env.vars H6.out.env.glt H6.out.par)
   go_wp2_with fail
   refine HS.out.mono ?_
   rintro e w17 ⟨rfl, hp17, hk17⟩
   have H17 := Yq (H6.out.call hp17 hk17 ((Sx.sign_go ts 123 s1).mono (by omega)))
   clear hp17 hk17
   have Hs7 : Hid ((Sx.sign ts 123 s1).err = none → deep < 8 ∧ ts.length + 2 ≤ (Sx.sign ts 123 s1).pos + N) := Yq (fun e => by
    have h1 := Sx.sign_go ts 123 s1 e
    have h2 := Hsd.out h1.1
    have h3 := HFu.out h2.1
    exact ⟨Hdp.out h1.1, by omega⟩)
   generalize Sx.sign ts 123 s1 = s7 at *
   go_wp2_with fail
   go_loopg [] N (fun n wr => ∃ (m' : MV) (s' : Sx.St), Hid (MAt A p w6.heap.size gm v ts w6 s' m' wr) ∧ Hid (R = Sx.parts ts n deep m'.msg s') ∧ Hid (s'.err = none → ts.length + 2 ≤ s'.pos + n) ∧ Hid (s'.err = none → deep < 8) ∧ n ≤ N)
   case atStart => exact ⟨mv0 x, s7, H17, HRd, Yq (fun e => (Hs7.out e).2), Yq (fun e => (Hs7.out e).1), Nat.le_refl _⟩
   case round =>
    obtain ⟨m3, s2, HA, HRn, HF, HD, hnN⟩ := hrel
    have HM := Yq (more_any A p v ts s2 wr HA.out.par)
    have Hmg := Yq (Sx.more_go ts s2)
    have Hst := Yq (Sx.parts_step ts HRn.out HF.out (by obtain ⟨_, _, _, _, h3⟩ := HA.out.par; exact h3))
    clear HRn HF HR HRd Hs7
    generalize Sx.more ts s2 = M at *
    obtain ⟨b, s3⟩ := M
    simp only at HM Hmg Hst
    cases b
    ·have HEnd := Yq (Hst.out.1 rfl)
     clear Hst
     go_wp2_with fail
     refine HM.out.mono ?_
     rintro e w20 ⟨rfl, hp20, hk20⟩
     have H20 := Yq (HA.out.call hp20 hk20 (Hmg.out))
     clear hp20 hk20
     have HBl := H20.out.blk.whole
     have HK9 := Yq (H20.out.kept.kept (Nat.le_refl _))
     have HBr := HK9.out.blk Hgm.out.1 (by have := Hgm.out; simp; omega)
     go_wp2_with (first
      | (refine wpList_load_seg rfl 45 _ rfl _ _ rfl _ _ HBl Tryz.underlying45 rfl infoMs ?_)
      | (refine wpList_store_all rfl 45 _ _ rfl gr m3.cells rfl rfl zMs HBr infoMs rfl H20.out.ones ?_; (intro w30 hB30 hgr30)))
     rw [HEnd.out]
     refine bodyPost_ret (v := .agg m3.cells.toArray) ?_ rfl ⟨_, rfl, H20.out.whole2 hgr30 Hgm.out.1.lt HK6.out.size, (Par.wrote H20.out.env H20.out.par HBr (by decide) hgr30 Hgm.out.2.2.2.2.2).1, ((HK6.out.trans2 HK9.out Hgm.out.2.1).then_new hgr30 Hgm.out.2.2.1)⟩
     exact results_blk (p := 4) (ty := 45) rfl _ _ gr m3.cells rfl hB30 _ Tryz.underlying45 rfl infoMs
    ·obtain ⟨n, hn, hO2, hnone, hfuel⟩ := Hst.out.2 rfl
     subst hn
     have HO2 := Yq hO2; have Hnone := Yq hnone; have Hfuel := Yq hfuel
     clear Hst hO2 hnone hfuel
     go_wp2_with fail
     refine HM.out.mono ?_
     rintro e w20 ⟨rfl, hp20, hk20⟩
     have H20 := Yq (HA.out.call hp20 hk20 (Hmg.out))
     clear hp20 hk20
     have HMn := Yq (Hih.out n (by omega))
     have Hpg := Yq (Sx.part_go ts (B := Sx.parts ts n) (Sx.parts_go ts n) deep m3.msg s3)
     have HPt := Yq (part_any A p w6.heap.size gm n deep v ts s3 m3 w20 w6 HMn.out (HD.out (Hmg.out Hnone.out).1) Hnone.out (by have := Hfuel.out; omega) H20.out)
     generalize Sx.part ts (Sx.parts ts n) deep m3.msg s3 = X at *
     obtain ⟨pm, s4⟩ := X
     simp only at HO2 Hpg
     unfold MsgPartPost at HPt
     simp only at HPt
     go_wp2_with fail
     refine HPt.out.mono ?_
     rintro e w31 ⟨rfl, m', hm', h31⟩
     have HMm := Yq hm'; have H31 := Yq h31
     clear hm' h31
     go_wp2_with fail
     go_roundg n
     case measure => omega
     case rel =>
      refine ⟨m', s4, H31, Yq (by rw [HO2.out, HMm.out]), Yq (fun he3 => ?_), Yq (fun _ => HD.out (Hmg.out Hnone.out).1), by omega⟩
      have h1 := (Hpg.out he3).2
      have h2 := Hfuel.out
      omega
 ·obtain ⟨g, hg⟩ := hn1 he
  subst hg
  have hdA : Sx.deepAt deep x s1 = s1 := by
   unfold Sx.deepAt
   cases hx : s1.err with
   | none => exact absurd hx he
   | some z => rfl
  have HRd : Hid (R = Sx.parts ts N deep (.mk x.text [] [] [] [] [] [] x.line x.col) (Sx.sign ts 123 s1)) := Yq (by have h1 := HR.out; rw [hdA] at h1; exact h1)
  have Hsd : Hid (Sx.GoesN 1 s s1) := Yq Hofg.out
  have Hdp : Hid (s1.err = none → deep < 8) := Yq (fun e => absurd e he)
  clear hn0 hn1 he hl cp f1 hdA
  go_upto_region 5 with fail
  clear c2 f2
  have HS := Yq (sign_any A p 123 v ts s1 w6 H6.out.env.vars H6.out.env.glt H6.out.par)
  go_wp2_with fail
  refine HS.out.mono ?_
  rintro e w17 ⟨rfl, hp17, hk17⟩
  have H17 := Yq (H6.out.call hp17 hk17 ((Sx.sign_go ts 123 s1).mono (by omega)))
  clear hp17 hk17
  have Hs7 : Hid ((Sx.sign ts 123 s1).err = none → deep < 8 ∧ ts.length + 2 ≤ (Sx.sign ts 123 s1).pos + N) := Yq (fun e => by
   have h1 := Sx.sign_go ts 123 s1 e
   have h2 := Hsd.out h1.1
   have h3 := HFu.out h2.1
   exact ⟨Hdp.out h1.1, by omega⟩)
  generalize Sx.sign ts 123 s1 = s7 at *
  go_wp2_with fail
  go_loopg [] N (fun n wr => ∃ (m' : MV) (s' : Sx.St), Hid (MAt A p w6.heap.size gm v ts w6 s' m' wr) ∧ Hid (R = Sx.parts ts n deep m'.msg s') ∧ Hid (s'.err = none → ts.length + 2 ≤ s'.pos + n) ∧ Hid (s'.err = none → deep < 8) ∧ n ≤ N)
  case atStart => exact ⟨mv0 x, s7, H17, HRd, Yq (fun e => (Hs7.out e).2), Yq (fun e => (Hs7.out e).1), Nat.le_refl _⟩
  case round =>
   obtain ⟨m3, s2, HA, HRn, HF, HD, hnN⟩ := hrel
   have HM := Yq (more_any A p v ts s2 wr HA.out.par)
   have Hmg := Yq (Sx.more_go ts s2)
   have Hst := Yq (Sx.parts_step ts HRn.out HF.out (by obtain ⟨_, _, _, _, h3⟩ := HA.out.par; exact h3))
   clear HRn HF HR HRd Hs7
   generalize Sx.more ts s2 = M at *
   obtain ⟨b, s3⟩ := M
   simp only at HM Hmg Hst
   cases b
   ·have HEnd := Yq (Hst.out.1 rfl)
    clear Hst
    go_wp2_with fail
    refine HM.out.mono ?_
    rintro e w20 ⟨rfl, hp20, hk20⟩
    have H20 := Yq (HA.out.call hp20 hk20 (Hmg.out))
    clear hp20 hk20
    have HBl := H20.out.blk.whole
    have HK9 := Yq (H20.out.kept.kept (Nat.le_refl _))
    have HBr := HK9.out.blk Hgm.out.1 (by have := Hgm.out; simp; omega)
    go_wp2_with (first
     | (refine wpList_load_seg rfl 45 _ rfl _ _ rfl _ _ HBl Tryz.underlying45 rfl infoMs ?_)
     | (refine wpList_store_all rfl 45 _ _ rfl gr m3.cells rfl rfl zMs HBr infoMs rfl H20.out.ones ?_; (intro w30 hB30 hgr30)))
    rw [HEnd.out]
    refine bodyPost_ret (v := .agg m3.cells.toArray) ?_ rfl ⟨_, rfl, H20.out.whole2 hgr30 Hgm.out.1.lt HK6.out.size, (Par.wrote H20.out.env H20.out.par HBr (by decide) hgr30 Hgm.out.2.2.2.2.2).1, ((HK6.out.trans2 HK9.out Hgm.out.2.1).then_new hgr30 Hgm.out.2.2.1)⟩
    exact results_blk (p := 4) (ty := 45) rfl _ _ gr m3.cells rfl hB30 _ Tryz.underlying45 rfl infoMs
   ·obtain ⟨n, hn, hO2, hnone, hfuel⟩ := Hst.out.2 rfl
    subst hn
    have HO2 := Yq hO2; have Hnone := Yq hnone; have Hfuel := Yq hfuel
    clear Hst hO2 hnone hfuel
    go_wp2_with fail
    refine HM.out.mono ?_
    rintro e w20 ⟨rfl, hp20, hk20⟩
    have H20 := Yq (HA.out.call hp20 hk20 (Hmg.out))
    clear hp20 hk20
    have HMn := Yq (Hih.out n (by omega))
    have Hpg := Yq (Sx.part_go ts (B := Sx.parts ts n) (Sx.parts_go ts n) deep m3.msg s3)
    have HPt := Yq (part_any A p w6.heap.size gm n deep v ts s3 m3 w20 w6 HMn.out (HD.out (Hmg.out Hnone.out).1) Hnone.out (by have := Hfuel.out; omega) H20.out)
    generalize Sx.part ts (Sx.parts ts n) deep m3.msg s3 = X at *
    obtain ⟨pm, s4⟩ := X
    simp only at HO2 Hpg
    unfold MsgPartPost at HPt
    simp only at HPt
    go_wp2_with fail
    refine HPt.out.mono ?_
    rintro e w31 ⟨rfl, m', hm', h31⟩
    have HMm := Yq hm'; have H31 := Yq h31
    clear hm' h31
    go_wp2_with fail
    go_roundg n
    case measure => omega
    case rel =>
     refine ⟨m', s4, H31, Yq (by rw [HO2.out, HMm.out]), Yq (fun he3 => ?_), Yq (fun _ => HD.out (Hmg.out Hnone.out).1), by omega⟩
     have h1 := (Hpg.out he3).2
     have h2 := Hfuel.out
     omega
theorem message_at (A : Nat → Addr) (p : Nat) (v : Value) (ts : List Lx.Tok) (n : Nat) : MsgAtN A p v ts n := by
 induction n using Nat.strongRecOn with
 | _ n ih => exact message_step A p v ts n ih
theorem message_any (A : Nat → Addr) (p : Nat) (v : Value) (ts : List Lx.Tok) (s : Sx.St) (w : World) (hE : Env A p v ts w) (hP : Par A p v ts s w) :
  Calls Tryz.prog 26 #[.pointer (some ⟨p, 0, none⟩), .int .i64 0] w (MsgPost A p v ts w (Sx.message ts 0 s)) :=
 message_at A p v ts (ts.length + 2) 0 s w (by omega) hE hP (fun _ => by omega)
end Go.Proofs.YtpcfdngnmigkfaaGreatDoor
