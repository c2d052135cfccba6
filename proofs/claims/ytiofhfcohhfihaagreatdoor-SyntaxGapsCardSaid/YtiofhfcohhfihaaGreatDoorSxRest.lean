/- Package syntax, walked: a field's name, number and options. -/
import Derived.Test.YtiofhfcohhfihaaGreatDoorSxOption
import Derived.Test.YtiofhfcohhfihaaGreatDoorGroupB
import Derived.Test.YtiofhfcohhfihaaGreatDoorGroupA
namespace Go.Proofs.YtiofhfcohhfihaaGreatDoor
open Go.RowKit
set_option linter.unusedVariables false
set_option linter.unusedSimpArgs false

theorem fSxRestA12_36 {P : Program} {md : Region.Mode} {ops : Array Oper} {Q : Exit → Act → World → Prop} {P0 P1 : World → Prop} {fin fuel : Nat} {b0 b1 b2 b3 b4 b5 b6 b7 b8 b9 b10 b11 : Bool} {x0 x1 x2 x3 x4 x5 x6 x7 x8 x9 x10 x11 x12 x13 x14 x15 x16 x17 x18 x19 x20 x21 x22 x23 x24 x25 x26 x27 x28 x29 x30 x31 x32 x33 x34 x35 : Value} {d} {w : World} (h : wpAnyG P md ops Q P0 P1 fin fuel #[b0, b1, b2, b3, b4, b5, b6, b7, b8, b9, b10, b11] ⟨#[x0, x1, x2, x3, x4, x5, x6, x7, x8, x9, x10, x11, x12, x13, x14, x15, x16, x17, x18, x19, x20, x21, x22, x23, x24, x25, x26, x27, x28, x29, x30, x31, x32, x33, x34, x35], d⟩ w) : wpAnyG P md ops Q P0 P1 fin fuel #[b0, b1, b2, b3, b4, b5, b6, b7, b8, b9, b10, b11] ⟨#[x0, x1, x2, x3, x4, x5, x6, x7, x8, x9, x10, x11, x12, x13, x14, x15, x16, x17, x18, x19, x20, x21, x22, x23, x24, x25, x26, x27, x28, x29, x30, x31, x32, x33, x34, x35], d⟩ w := h

theorem FAt.below {A : Nat → Addr} {p g : Nat} {v : Value} {ts : List Lx.Tok} {w0 w w' : World} {s : Sx.St} {f : Sx.Fld} (h : FAt A p g v ts w0 s f w) (hb : Below w.heap.size w w') : FAt A p g v ts w0 s f w' :=
  h.call (h.par.below hb) (Kept.of_below hb)
theorem field_num (k x a b : Int) (t : ByteArray) (w : World) : (Instr.field 35 (.agg #[.int .i64 k, .string t, .int .i64 x, .int .i64 a, .int .i64 b]) 2).run Tryz.prog w = .ok (.int .i64 x) w := by kernel_rfl
theorem field_kind (k x a b : Int) (t : ByteArray) (w : World) : (Instr.field 35 (.agg #[.int .i64 k, .string t, .int .i64 x, .int .i64 a, .int .i64 b]) 0).run Tryz.prog w = .ok (.int .i64 k) w := by kernel_rfl
theorem of_arr (A : Nat → Addr) (p k : Nat) (hk : k ≠ 0) (v : Value) (ts : List Lx.Tok) (s : Sx.St) (w : World) (hv : Vars A w) (h : Par A p v ts s w) :
    Calls Tryz.prog 75 #[.pointer (some ⟨p, 0, none⟩), .int .i64 k] w fun e w' => e = .returned (.agg #[.int .i64 ((Sx.of ts k s).1.kind : Nat), .string (toB (Sx.of ts k s).1.text), .int .i64 ((Sx.of ts k s).1.num : Nat), .int .i64 ((Sx.of ts k s).1.line : Nat), .int .i64 ((Sx.of ts k s).1.col : Nat)]) ∧ Par A p v ts (Sx.of ts k s).2 w' ∧ Kept [p] w w' :=
  of_any A p k hk v ts s w hv h
/-- what a function answers that takes a field -/
def FldPost (A : Nat → Addr) (p : Nat) (v : Value) (ts : List Lx.Tok) (w : World) (r : Sx.Fld × Sx.St) (e : Ending) (w' : World) : Prop :=
  e = .returned (.agg (fC r.1).toArray) ∧ Par A p v ts r.2 w' ∧ Kept [p] w w'
theorem one1 {v : Value} (h : v.oneCell' = true) : ∀ u ∈ [v], u.oneCell' = true := fun u hu => by rw [List.mem_singleton.1 hu]; exact h

set_option maxHeartbeats 8000000 in
set_option maxRecDepth 100000 in
theorem rest_any (A : Nat → Addr) (p : Nat) (v : Value) (ts : List Lx.Tok) (s : Sx.St) (f : Sx.Fld) (w : World) (hE : Env A p v ts w) (hP : Par A p v ts s w) :
    Calls Tryz.prog 132 #[.pointer (some ⟨p, 0, none⟩), .agg (fC f).toArray] w (FldPost A p v ts w (Sx.rest ts f s)) := by
  have Hv := Lib.hid hE; have Hp := Lib.hid hP; have Hplt := Lib.hid hP.lt
  obtain ⟨R, hR⟩ : ∃ R, R = Sx.rest ts f s := ⟨_, rfl⟩
  rw [← hR]
  have HR := Lib.hid hR
  have hfd := field_num
  clear hR hE hP
  go_enter Tryz.func132, Tryz.ntmps132
  go_upto_region 1 with (first
    | (refine wpList_box_lay rfl 79 _ rfl (fC f) rfl ?_; (intro w1 gf hgf hBf hb1))
    | (refine wpList_alloc_lay rfl 79 rfl zF zeroF ?_; (intro w2 gr hgr hBr hb2)))
  have Hb2 : Hid (Below w.heap.size w w2) := Lib.hid (hb1.trans (hb2.mono hb1.size))
  have Hgr : Hid (Blk w2 gr zF ∧ w.heap.size ≤ gf ∧ w.heap.size ≤ gr ∧ gf ≠ gr ∧ p < gf ∧ p < gr) := Lib.hid ⟨hBr, hgf, Nat.le_trans hb1.size hgr, fun e => by have := hBf.lt; omega, Nat.lt_of_lt_of_le Hplt.out hgf, by have := Hplt.out; have := hb1.size; omega⟩
  have H2 : Hid (FAt A p gf v ts w2 s f w2) := Lib.hid ⟨Hp.out.below Hb2.out, Hv.out.below (Hb2.out.mono (Nat.le_of_lt Hplt.out)), hBf.below hb2 hBf.lt, Kept.refl _ _, Hgr.out.2.2.2.2.1⟩
  clear hb1 hb2 hgf hgr hBf hBr
  have HN := Lib.hid (name_arr A p v ts s w2 H2.out.env.vars H2.out.par)
  obtain ⟨N, hN⟩ : ∃ N, N = Sx.of ts 1 s := ⟨_, rfl⟩
  rw [← hN] at HN
  have HNe := Lib.hid hN
  obtain ⟨x, s1⟩ := N
  simp only at HN
  clear hN
  go_upto_region 2 with (first
    | (go_at_call 78; (with_reducible refine HN.out.mono ?_); rintro e w3 ⟨rfl, hp3, hk3⟩; have H3 := Lib.hid (H2.out.call hp3 hk3); clear hp3 hk3)
    | (refine wpList_alloc_lay rfl 35 rfl zT zeroT ?_; (intro w4 g5 hg5 hB5 hb4))
    | (refine wpList_store_all rfl 35 _ _ rfl g5 (tC x) rfl rfl zT hB5 infoT rfl (one_tC x) ?_; (intro w5 hB6 hgr5; have hb5 := Below.grown hb4 hgr5 hb4.size (fun _ e => by cases e; exact hg5); clear hb4 hgr5 hB5)))
  have H5 : Hid (FAt A p gf v ts w2 s1 f w5.drew) := Lib.hid ((H3.out.below hb5).below (Below.refl _ _).drew)
  have hP5 : Blk w5.drew g5 (tC x) := hB6
  have Hne : Hid (some g5 ≠ some gf) := Lib.hid (fun e => by have h1 := H3.out.blk.lt; cases e; omega)
  clear hb5 hg5 hB6
  refine wp_region_G 11 (fun w' => Blk w' g5 (tC x)) (fun _ => True) (by kernel_rfl) hP5 trivial (fun _ => ?_)
  refine wpAnyG_take0 (i := 0) (v := .pointer (some ⟨g5, 1, none⟩)) rfl (by kernel_rfl) (fun _ _ _ h => h) (.inl ⟨by rfl, fun w hw => by go_simp⟩) (InvG.mk hP5 trivial) ?_
  refine fSxRestA12_36 ?_
  refine wpAnyG_take0 (i := 1) (v := .string (toB x.text)) rfl (by kernel_rfl) (fun _ _ _ h => h) (.inl ⟨by rfl, fun w hw => by have hc := hw.cell (o := 1) (u := .string (toB x.text)) rfl; clear hw; go_simp⟩) (InvG.mk hP5 trivial) ?_
  refine fSxRestA12_36 ?_
  refine wpAnyG_take0 (i := 2) (v := .pointer (some ⟨g5, 3, none⟩)) rfl (by kernel_rfl) (fun _ _ _ h => h) (.inl ⟨by rfl, fun w hw => by go_simp⟩) (InvG.mk hP5 trivial) ?_
  refine fSxRestA12_36 ?_
  refine wpAnyG_take0 (i := 3) (v := .int .i64 x.line) rfl (by kernel_rfl) (fun _ _ _ h => h) (.inl ⟨by rfl, fun w hw => by have hc := hw.cell (o := 3) (u := .int .i64 x.line) rfl; clear hw; go_simp⟩) (InvG.mk hP5 trivial) ?_
  refine fSxRestA12_36 ?_
  refine wpAnyG_take0 (i := 4) (v := .pointer (some ⟨g5, 4, none⟩)) rfl (by kernel_rfl) (fun _ _ _ h => h) (.inl ⟨by rfl, fun w hw => by go_simp⟩) (InvG.mk hP5 trivial) ?_
  refine fSxRestA12_36 ?_
  refine wpAnyG_take0 (i := 5) (v := .int .i64 x.col) rfl (by kernel_rfl) (fun _ _ _ h => h) (.inl ⟨by rfl, fun w hw => by have hc := hw.cell (o := 4) (u := .int .i64 x.col) rfl; clear hw; go_simp⟩) (InvG.mk hP5 trivial) ?_
  refine fSxRestA12_36 ?_
  refine wpAnyG_take0 (i := 6) (v := .pointer (some ⟨gf, 0, none⟩)) rfl (by kernel_rfl) (fun _ _ _ h => h) (.inl ⟨by rfl, fun w hw => by go_simp⟩) (InvG.mk hP5 trivial) ?_
  refine fSxRestA12_36 ?_
  refine wpAnyG_ready (rs := [7]) (by kernel_rfl) (by simp) ?_
  refine AllReadyG.plain rfl rfl (fun K hK => ?_) AllReadyG.nil
  refine wp_store_lay 9 _ _ rfl gf 0 (.string (toB x.text)) [.string (toB x.text)] (fC f) (by go_simp) (by go_simp) rfl H5.out.blk info_str1 (show 0 + 1 ≤ 10 by decide) (one1 rfl) ?_
  intro w6 hB6 hg6 hs6
  have H6 : Hid (FAt A p gf v ts w2 s1 { f with name := x.text } w6) := Lib.hid (H5.out.wrote hB6 hg6)
  have hP6 : Blk w6 g5 (tC x) := hP5.grown hg6 Hne.out
  clear hB6 hg6 hs6
  refine hK.out _ _ (InvG.mk hP6 trivial) (fun _ => ?_)
  clear hK
  refine fSxRestA12_36 ?_
  refine wpAnyG_take0 (i := 8) (v := .pointer (some ⟨gf, 8, none⟩)) rfl (by kernel_rfl) (fun _ _ _ h => h) (.inl ⟨by rfl, fun w hw => by go_simp⟩) (InvG.mk hP6 trivial) ?_
  refine fSxRestA12_36 ?_
  refine wpAnyG_ready (rs := [9]) (by kernel_rfl) (by simp) ?_
  refine AllReadyG.plain rfl rfl (fun K hK => ?_) AllReadyG.nil
  refine wp_store_lay 3 _ _ rfl gf 8 (.int .i64 x.line) [.int .i64 x.line] (fC { f with name := x.text }) (by go_simp) (by go_simp) rfl H6.out.blk info_int1 (show 8 + 1 ≤ 10 by decide) (one1 rfl) ?_
  intro w7 hB7 hg7 hs7
  have H7 : Hid (FAt A p gf v ts w2 s1 { f with name := x.text, line := x.line } w7) := Lib.hid (H6.out.wrote hB7 hg7)
  have hP7 : Blk w7 g5 (tC x) := hP6.grown hg7 Hne.out
  clear hB7 hg7 hs7
  refine hK.out _ _ (InvG.mk hP7 trivial) (fun _ => ?_)
  clear hK
  refine fSxRestA12_36 ?_
  refine wpAnyG_take0 (i := 10) (v := .pointer (some ⟨gf, 9, none⟩)) rfl (by kernel_rfl) (fun _ _ _ h => h) (.inl ⟨by rfl, fun w hw => by go_simp⟩) (InvG.mk hP7 trivial) ?_
  refine fSxRestA12_36 ?_
  refine wpAnyG_ready (rs := [11]) (by kernel_rfl) (by simp) ?_
  refine AllReadyG.plain rfl rfl (fun K hK => ?_) AllReadyG.nil
  refine wp_store_lay 3 _ _ rfl gf 9 (.int .i64 x.col) [.int .i64 x.col] (fC { f with name := x.text, line := x.line }) (by go_simp) (by go_simp) rfl H7.out.blk info_int1 (show 9 + 1 ≤ 10 by decide) (one1 rfl) ?_
  intro w8 hB8 hg8 hs8
  have H8 : Hid (FAt A p gf v ts w2 s1 { f with name := x.text, line := x.line, col := x.col } w8) := Lib.hid (H7.out.wrote hB8 hg8)
  have hP8 : Blk w8 g5 (tC x) := hP7.grown hg8 Hne.out
  clear hB8 hg8 hs8
  refine hK.out _ _ (InvG.mk hP8 trivial) (fun _ => ?_)
  clear hK
  refine fSxRestA12_36 ?_
  refine wpAnyG_done (by kernel_rfl) ?_ _
  clear hP5 hP6 hP7 hP8
  have HS := Lib.hid (sign_any A p 61 v ts s1 w8 H8.out.env.vars H8.out.env.glt H8.out.par)
  go_wp2_with fail
  refine HS.out.mono ?_
  rintro e w9 ⟨rfl, hp9, hk9⟩
  have H9 := Lib.hid (H8.out.call hp9 hk9)
  clear hp9 hk9
  have HO := Lib.hid (of_arr A p 2 (by decide) v ts _ w9 H9.out.env.vars H9.out.par)
  obtain ⟨M, hM⟩ : ∃ M, M = Sx.of ts 2 (Sx.sign ts 61 s1) := ⟨_, rfl⟩
  rw [← hM] at HO
  have HMe := Lib.hid hM
  obtain ⟨y, s2⟩ := M
  simp only at HO
  clear hM
  go_wp2_with fail
  refine HO.out.mono ?_
  rintro e w10 ⟨rfl, hp10, hk10⟩
  have H10 := Lib.hid (H9.out.call hp10 hk10)
  clear hp10 hk10
  have HB10 := H10.out.blk
  go_upto_region 5 with (first
    | (refine wpList_store_blk1 rfl 3 _ _ rfl gf 5 (.int .i64 y.num) rfl rfl _ HB10 info_int1 ?_ rfl ?_; (· show 5 + 1 ≤ 10; decide); (intro w11 hB11 hgr11 hsz)))
  obtain ⟨f1, hf1⟩ : ∃ f1 : Sx.Fld, f1 = { f with name := x.text, line := x.line, col := x.col, number := y.num } := ⟨_, rfl⟩
  have H11 : Hid (FAt A p gf v ts w2 s2 f1 w11) := Lib.hid (by rw [hf1]; exact H10.out.wrote hB11 hgr11)
  have HRN : Hid (Sx.restN ts f s = (f1, s2)) := Lib.hid (by
    unfold Sx.restN
    have e1 := HNe.out; have e2 := HMe.out
    rw [← e1]; dsimp only; rw [← e2, hf1])
  clear hB11 hgr11 hsz HB10 hf1
  have HT := Lib.hid (takes_any A p 4 (by decide) v ts s2 [91] w11 H11.out.par)
  unfold Sx.takes at HT
  cases hs : Sx.sees ts 4 [91] s2
  · rw [hs] at HT
    simp only [↓reduceIte, Bool.false_eq_true] at HT
    have HEnd : Hid (R = (f1, Sx.sign ts 59 s2)) := Lib.hid (by rw [HR.out]; unfold Sx.rest Sx.restO; rw [HRN.out]; dsimp only; rw [hs]; rfl)
    clear hs
    go_wp2_with fail
    refine HT.out.mono ?_
    rintro e w12 ⟨rfl, hp12, hk12⟩
    have H12 := Lib.hid (H11.out.call hp12 hk12)
    clear hp12 hk12
    have HS2 := Lib.hid (sign_any A p 59 v ts s2 w12 H12.out.env.vars H12.out.env.glt H12.out.par)
    go_wp2_with fail
    refine HS2.out.mono ?_
    rintro e w13 ⟨rfl, hp13, hk13⟩
    have H13 := Lib.hid (H12.out.call hp13 hk13)
    clear hp13 hk13
    have HB13 := H13.out.blk.whole
    have HBr := H13.out.kept.blk Hgr.out.1 (by have := Hgr.out; simp; omega)
    go_wp2_with (first
      | (refine wpList_load_seg rfl 79 _ rfl _ _ rfl _ _ HB13 Tryz.underlying79 rfl infoF ?_)
      | (refine wpList_store_all rfl 79 _ _ rfl gr (fC f1) rfl rfl zF HBr infoF rfl (one_fC f1) ?_; (intro w14 hB14 hgr14)))
    rw [HEnd.out]
    refine bodyPost_ret (v := .agg (fC f1).toArray) ?_ rfl ⟨rfl, (Par.wrote H13.out.env H13.out.par HBr (by decide) hgr14 Hgr.out.2.2.2.2.2).1, ?_⟩
    · exact results_blk (p := 4) (ty := 79) rfl _ _ gr (fC f1) rfl hB14 _ Tryz.underlying79 rfl infoF
    · exact (Kept.since Hb2.out H13.out.kept Hgr.out.2.1).then_new hgr14 Hgr.out.2.2.1
  · rw [hs] at HT
    simp only [↓reduceIte, Bool.false_eq_true] at HT
    obtain ⟨O, hO⟩ : ∃ O, O = Sx.options ts (ts.length + 1) (Sx.option ts f1 s2.next).1 (Sx.option ts f1 s2.next).2 := ⟨_, rfl⟩
    have HEnd : Hid (R = (O.1, Sx.sign ts 59 (Sx.sign ts 93 O.2))) := Lib.hid (by rw [HR.out]; unfold Sx.rest Sx.restO; rw [HRN.out]; dsimp only; rw [hs, hO]; rfl)
    have HO1 := Lib.hid hO
    clear hs hO
    go_wp2_with fail
    refine HT.out.mono ?_
    rintro e w12 ⟨rfl, hp12, hk12⟩
    have H12 := Lib.hid (H11.out.call hp12 hk12)
    clear hp12 hk12
    have HOp := Lib.hid (option_any A p gf v ts s2.next f1 w12 w2 H12.out)
    go_wp2_with fail
    refine HOp.out.mono ?_
    rintro e w13 ⟨rfl, h13⟩
    have H13 := Lib.hid h13
    clear h13
    go_wp2_with fail
    go_loopg [] (ts.length + 1) (fun n wr => ∃ (f' : Sx.Fld) (s' : Sx.St), Hid (FAt A p gf v ts w2 s' f' wr) ∧ Hid (O = Sx.options ts n f' s') ∧ Hid (s'.err = none → ts.length + 1 ≤ s'.pos + n))
    case atStart => exact ⟨_, _, H13, HO1, Lib.hid (fun _ => by omega)⟩
    case round =>
      obtain ⟨f2, s3, HA, HOn, HF⟩ := hrel
      have HT3 := Lib.hid (takes_any A p 4 (by decide) v ts s3 [44] wr HA.out.par)
      unfold Sx.takes at HT3
      cases hs : Sx.sees ts 4 [44] s3
      · rw [hs] at HT3
        simp only [↓reduceIte, Bool.false_eq_true] at HT3
        have hend : O = (f2, s3) := by
          rw [HOn.out]
          cases gk with
          | zero => rfl
          | succ n => rw [Sx.options, hs]; rfl
        have HEnd : Hid (R = (f2, Sx.sign ts 59 (Sx.sign ts 93 s3))) := Lib.hid (by rw [HEnd.out, hend])
        clear hs hend
        go_wp2_with fail
        refine HT3.out.mono ?_
        rintro e w20 ⟨rfl, hp20, hk20⟩
        have H20 := Lib.hid (HA.out.call hp20 hk20)
        clear hp20 hk20
        have HS3 := Lib.hid (sign_any A p 93 v ts s3 w20 H20.out.env.vars H20.out.env.glt H20.out.par)
        go_wp2_with fail
        refine HS3.out.mono ?_
        rintro e w21 ⟨rfl, hp21, hk21⟩
        have H21 := Lib.hid (H20.out.call hp21 hk21)
        clear hp21 hk21
        have HS4 := Lib.hid (sign_any A p 59 v ts _ w21 H21.out.env.vars H21.out.env.glt H21.out.par)
        go_wp2_with fail
        refine HS4.out.mono ?_
        rintro e w22 ⟨rfl, hp22, hk22⟩
        have H22 := Lib.hid (H21.out.call hp22 hk22)
        clear hp22 hk22
        have HB22 := H22.out.blk.whole
        have HBr := H22.out.kept.blk Hgr.out.1 (by have := Hgr.out; simp; omega)
        go_wp2_with (first
          | (refine wpList_load_seg rfl 79 _ rfl _ _ rfl _ _ HB22 Tryz.underlying79 rfl infoF ?_)
          | (refine wpList_store_all rfl 79 _ _ rfl gr (fC f2) rfl rfl zF HBr infoF rfl (one_fC f2) ?_; (intro w23 hB23 hgr23)))
        rw [HEnd.out]
        refine bodyPost_ret (v := .agg (fC f2).toArray) ?_ rfl ⟨rfl, (Par.wrote H22.out.env H22.out.par HBr (by decide) hgr23 Hgr.out.2.2.2.2.2).1, ?_⟩
        · exact results_blk (p := 4) (ty := 79) rfl _ _ gr (fC f2) rfl hB23 _ Tryz.underlying79 rfl infoF
        · exact (Kept.since Hb2.out H22.out.kept Hgr.out.2.1).then_new hgr23 Hgr.out.2.2.1
      · rw [hs] at HT3
        simp only [↓reduceIte, Bool.false_eq_true] at HT3
        obtain ⟨he, hpos⟩ := sees_here (by decide) hs
        have hfuel := HF.out he
        obtain ⟨n, rfl⟩ : ∃ n, gk = n + 1 := ⟨gk - 1, by omega⟩
        have Hnx : Hid (O = Sx.options ts n (Sx.option ts f2 s3.next).1 (Sx.option ts f2 s3.next).2) := Lib.hid (by rw [HOn.out, Sx.options, hs]; rfl)
        have Hgo := Lib.hid (Sx.option_go ts f2 s3.next)
        clear hs HOn HF
        go_wp2_with fail
        refine HT3.out.mono ?_
        rintro e w20 ⟨rfl, hp20, hk20⟩
        have H20 := Lib.hid (HA.out.call hp20 hk20)
        clear hp20 hk20
        have HOp2 := Lib.hid (option_any A p gf v ts s3.next f2 w20 w2 H20.out)
        go_wp2_with fail
        refine HOp2.out.mono ?_
        rintro e w21 ⟨rfl, h21⟩
        have H21 := Lib.hid h21
        clear h21
        go_wp2_with fail
        go_roundg n
        case measure => omega
        case rel =>
          refine ⟨_, _, H21, Hnx, Lib.hid (fun he3 => ?_)⟩
          have h1 := (Hgo.out he3).2
          have e2 : s3.next.pos = s3.pos + 1 := rfl
          omega

end Go.Proofs.YtiofhfcohhfihaaGreatDoor
