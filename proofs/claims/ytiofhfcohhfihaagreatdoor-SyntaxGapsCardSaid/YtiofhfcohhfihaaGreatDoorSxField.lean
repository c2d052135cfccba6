/- Package syntax, walked: fields, maps. -/
import Derived.Test.YtiofhfcohhfihaaGreatDoorSxRest
namespace Go.Proofs.YtiofhfcohhfihaaGreatDoor
open Go.RowKit
set_option linter.unusedVariables false
set_option linter.unusedSimpArgs false

theorem fld_build (a b : Int) (t : ByteArray) (w : World) : (Instr.build 79 #[(4, .int .i64 a), (7, .int .i64 b), (1, .string t)]).run Tryz.prog w = .ok (.agg #[.string ⟨#[]⟩, .string t, .string ⟨#[]⟩, .string ⟨#[]⟩, .int .i64 a, .int .i64 0, .int .i64 0, .int .i64 b, .int .i64 0, .int .i64 0]) w := by kernel_rfl
theorem fld_build1 (a : Int) (w : World) : (Instr.build 79 #[(4, .int .i64 a)]).run Tryz.prog w = .ok (.agg #[.string ⟨#[]⟩, .string ⟨#[]⟩, .string ⟨#[]⟩, .string ⟨#[]⟩, .int .i64 a, .int .i64 0, .int .i64 0, .int .i64 0, .int .i64 0, .int .i64 0]) w := by kernel_rfl

set_option maxHeartbeats 4000000 in
set_option maxRecDepth 100000 in
theorem field_any (A : Nat → Addr) (p label oneof : Nat) (v : Value) (ts : List Lx.Tok) (s : Sx.St) (w : World) (hE : Env A p v ts w) (hP : Par A p v ts s w) :
    Calls Tryz.prog 108 #[.pointer (some ⟨p, 0, none⟩), .int .i64 label, .int .i64 oneof] w (FldPost A p v ts w (Sx.field ts label oneof s)) := by
  have Hv := Lib.hid hE; have Hp := Lib.hid hP; have Hplt := Lib.hid hP.lt
  have HTy := Lib.hid (fun w0 (e0 : Env A p v ts w0) (h0 : Par A p v ts s w0) => typ_any A p v ts e0.small s w0 e0.vars e0.glt h0)
  have HRs := Lib.hid (fun w0 t s0 (e0 : Env A p v ts w0) (h0 : Par A p v ts s0 w0) => (show Calls Tryz.prog 132 #[.pointer (some ⟨p, 0, none⟩), .agg #[.string ⟨#[]⟩, .string (toB t), .string ⟨#[]⟩, .string ⟨#[]⟩, .int .i64 label, .int .i64 0, .int .i64 0, .int .i64 oneof, .int .i64 0, .int .i64 0]] w0 (FldPost A p v ts w0 (Sx.rest ts { Sx.zFld with label := label, oneof := oneof, typ := t } s0)) from rest_any A p v ts s0 _ w0 e0 h0))
  have hbd := fld_build
  unfold Sx.field
  generalize Sx.typ ts s = T at *
  obtain ⟨t, s1⟩ := T
  simp only at HTy ⊢
  have HR := Lib.hid (fun w0 => HRs.out w0 t s1)
  clear HRs hE hP
  generalize Sx.rest ts { Sx.zFld with label := label, oneof := oneof, typ := t } s1 = R at *
  obtain ⟨f, s2⟩ := R
  unfold FldPost at HR
  simp only at HR
  go_enter Tryz.func108, Tryz.ntmps108
  go_upto_region 1 with (first
    | (refine wpList_alloc_lay rfl 79 rfl zF zeroF ?_; (intro w1 gr hgr hBr hb1)))
  have HE1 := Lib.hid (Hv.out.below (hb1.mono (Nat.le_of_lt Hplt.out)))
  have HT1 := Lib.hid (HTy.out w1 HE1.out (Hp.out.below hb1))
  have Hb1 := Lib.hid hb1; have HBr := Lib.hid hBr; have Hgr := Lib.hid hgr
  have Hne := Lib.hid (show p < gr from Nat.lt_of_lt_of_le Hplt.out hgr)
  clear hb1 hBr hgr HTy
  go_wp2_with fail
  refine HT1.out.mono ?_
  rintro e w2 ⟨rfl, hp2, hk2⟩
  have HE2 := Lib.hid (HE1.out.kept hk2 (Nat.lt_of_lt_of_le Hplt.out Hb1.out.size) (fun k hm => by rw [List.mem_singleton.1 hm]; exact Nat.le_refl _))
  have HR2 := Lib.hid (HR.out w2 HE2.out hp2)
  have HBr2 := Lib.hid (hk2.blk HBr.out (by have := Hne.out; simp; omega))
  have HK2 := Lib.hid ((Kept.of_below Hb1.out).trans hk2)
  clear hp2 hk2 HT1
  go_wp2_with fail
  refine HR2.out.mono ?_
  rintro e w3 ⟨rfl, hp3, hk3⟩
  have HE3 := Lib.hid (HE2.out.kept hk3 (Nat.lt_of_lt_of_le Hplt.out HK2.out.size) (fun k hm => by rw [List.mem_singleton.1 hm]; exact Nat.le_refl _))
  have HBr3 := hk3.blk HBr2.out (by have := Hne.out; simp; omega)
  have HK3 := Lib.hid (HK2.out.trans hk3)
  have HP3 := Lib.hid hp3
  clear hp3 hk3 HR2
  go_wp2_with (first
    | (refine wpList_store_all rfl 79 _ _ rfl gr (fC f) rfl rfl zF HBr3 infoF rfl (one_fC f) ?_; (intro w4 hB4 hgr4)))
  refine bodyPost_ret (v := .agg (fC f).toArray) ?_ rfl ⟨rfl, (Par.wrote HE3.out HP3.out HBr3 (by decide) hgr4 Hne.out).1, HK3.out.then_new hgr4 Hgr.out⟩
  exact results_blk (p := 6) (ty := 79) rfl _ _ gr (fC f) rfl hB4 _ Tryz.underlying79 rfl infoF

set_option maxHeartbeats 8000000 in
set_option maxRecDepth 100000 in
theorem mapped_any (A : Nat → Addr) (p : Nat) (v : Value) (ts : List Lx.Tok) (s : Sx.St) (w : World) (hE : Env A p v ts w) (hP : Par A p v ts s w) :
    Calls Tryz.prog 110 #[.pointer (some ⟨p, 0, none⟩)] w (FldPost A p v ts w (Sx.mapped ts s)) := by
  have Hv := Lib.hid hE; have Hp := Lib.hid hP; have Hplt := Lib.hid hP.lt
  obtain ⟨R, hR⟩ : ∃ R, R = Sx.mapped ts s := ⟨_, rfl⟩
  rw [← hR]
  have HR := Lib.hid hR
  have hfd := field_text
  have hbd := fld_build1
  clear hR hE hP
  go_enter Tryz.func110, Tryz.ntmps110
  go_upto_region 1 with (first
    | (refine wpList_alloc_lay rfl 79 rfl zF zeroF ?_; (intro w1 gr hgr hBr hb1)))
  go_upto_region 2 with (first
    | (refine wpList_alloc_lay rfl 79 rfl zF zeroF ?_; (intro w2 gf hgf hBf hb2; have hBr2 := hBr.below hb2 hBr.lt; have hlt1 := hBr.lt; clear hBr))
    | (refine wpList_store_all rfl 79 _ _ rfl gf (fC { Sx.zFld with label := 4 }) rfl rfl zF hBf infoF rfl (one_fC _) ?_; (intro w3 hB3 hgr3)))
  have hb3 : Below w1.heap.size w1 w3 := Below.grown hb2 hgr3 hb2.size (fun _ e => by cases e; exact hgf)
  have Hb3 : Hid (Below w.heap.size w w3) := Lib.hid (hb1.trans (hb3.mono hb1.size))
  have hrf : gr ≠ gf := fun e => by omega
  have Hgr : Hid (Blk w3 gr zF ∧ w.heap.size ≤ gf ∧ w.heap.size ≤ gr ∧ gf ≠ gr ∧ p < gf ∧ p < gr) := Lib.hid ⟨hBr2.grown hgr3 (fun e => hrf (Option.some.inj e)), Nat.le_trans hb1.size hgf, hgr, fun e => hrf e.symm, by have := Hplt.out; have := hb1.size; omega, Nat.lt_of_lt_of_le Hplt.out hgr⟩
  have H3 : Hid (FAt A p gf v ts w3 s { Sx.zFld with label := 4 } w3) := Lib.hid ⟨Hp.out.below Hb3.out, Hv.out.below (Hb3.out.mono (Nat.le_of_lt Hplt.out)), hB3, Kept.refl _ _, Hgr.out.2.2.2.2.1⟩
  clear hb1 hb2 hb3 hgf hgr hBf hBr2 hgr3 hB3 hrf hlt1
  have HS := Lib.hid (sign_any A p 60 v ts s w3 H3.out.env.vars H3.out.env.glt H3.out.par)
  go_wp2_with fail
  refine HS.out.mono ?_
  rintro e w4 ⟨rfl, hp4, hk4⟩
  have H4 := Lib.hid (H3.out.call hp4 hk4)
  clear hp4 hk4
  have HN := Lib.hid (name_arr A p v ts _ w4 H4.out.env.vars H4.out.par)
  obtain ⟨N, hN⟩ : ∃ N, N = Sx.of ts 1 (Sx.sign ts 60 s) := ⟨_, rfl⟩
  rw [← hN] at HN
  have HNe := Lib.hid hN
  obtain ⟨x, s1⟩ := N
  simp only at HN
  clear hN
  go_wp2_with fail
  refine HN.out.mono ?_
  rintro e w5 ⟨rfl, hp5, hk5⟩
  have H5 := Lib.hid (H4.out.call hp5 hk5)
  clear hp5 hk5
  have HB5 := H5.out.blk
  go_upto_region 4 with (first
    | (refine wpList_store_blk1 rfl 9 _ _ rfl gf 2 (.string (toB x.text)) rfl rfl _ HB5 info_str1 ?_ rfl ?_; (· show 2 + 1 ≤ 10; decide); (intro w6 hB6 hgr6 hsz)))
  have H6 : Hid (FAt A p gf v ts w3 s1 { Sx.zFld with label := 4, mapKey := x.text } w6) := Lib.hid (H5.out.wrote hB6 hgr6)
  clear hB6 hgr6 hsz HB5
  have HS2 := Lib.hid (sign_any A p 44 v ts s1 w6 H6.out.env.vars H6.out.env.glt H6.out.par)
  go_wp2_with fail
  refine HS2.out.mono ?_
  rintro e w7 ⟨rfl, hp7, hk7⟩
  have H7 := Lib.hid (H6.out.call hp7 hk7)
  clear hp7 hk7
  have HTy := Lib.hid (typ_any A p v ts H7.out.env.small _ w7 H7.out.env.vars H7.out.env.glt H7.out.par)
  obtain ⟨T, hT⟩ : ∃ T, T = Sx.typ ts (Sx.sign ts 44 s1) := ⟨_, rfl⟩
  rw [← hT] at HTy
  have HTe := Lib.hid hT
  obtain ⟨t, s2⟩ := T
  simp only at HTy
  clear hT
  go_wp2_with fail
  refine HTy.out.mono ?_
  rintro e w8 ⟨rfl, hp8, hk8⟩
  have H8 := Lib.hid (H7.out.call hp8 hk8)
  clear hp8 hk8
  have HB8 := H8.out.blk
  go_upto_region 6 with (first
    | (refine wpList_store_blk1 rfl 9 _ _ rfl gf 1 (.string (toB t)) rfl rfl _ HB8 info_str1 ?_ rfl ?_; (· show 1 + 1 ≤ 10; decide); (intro w9 hB9 hgr9 hsz)))
  obtain ⟨f1, hf1⟩ : ∃ f1 : Sx.Fld, f1 = { Sx.zFld with label := 4, mapKey := x.text, typ := t } := ⟨_, rfl⟩
  have H9 : Hid (FAt A p gf v ts w3 s2 f1 w9) := Lib.hid (by rw [hf1]; exact H8.out.wrote hB9 hgr9)
  have HEnd : Hid (R = Sx.rest ts f1 (Sx.sign ts 62 s2)) := Lib.hid (by
    rw [HR.out, hf1]
    unfold Sx.mapped Sx.mapK
    have e1 := HNe.out; have e2 := HTe.out
    rw [← e1]; dsimp only; rw [← e2])
  clear hB9 hgr9 hsz HB8 hf1
  have HS3 := Lib.hid (sign_any A p 62 v ts s2 w9 H9.out.env.vars H9.out.env.glt H9.out.par)
  go_wp2_with fail
  refine HS3.out.mono ?_
  rintro e w10 ⟨rfl, hp10, hk10⟩
  have H10 := Lib.hid (H9.out.call hp10 hk10)
  clear hp10 hk10
  have HRs := Lib.hid (rest_any A p v ts _ f1 w10 H10.out.env H10.out.par)
  rw [← HEnd.out] at HRs
  obtain ⟨f, s3⟩ := R
  unfold FldPost at HRs
  simp only at HRs
  have HB10 := H10.out.blk.whole
  go_wp2_with (first
    | (refine wpList_load_seg rfl 79 _ rfl _ _ rfl _ _ HB10 Tryz.underlying79 rfl infoF ?_))
  refine HRs.out.mono ?_
  rintro e w11 ⟨rfl, hp11, hk11⟩
  have H11 := Lib.hid (H10.out.call hp11 hk11)
  clear hp11 hk11 HB10
  have HBr := H11.out.kept.blk Hgr.out.1 (by have := Hgr.out; simp; omega)
  go_wp2_with (first
    | (refine wpList_store_all rfl 79 _ _ rfl gr (fC f) rfl rfl zF HBr infoF rfl (one_fC f) ?_; (intro w12 hB12 hgr12)))
  refine bodyPost_ret (v := .agg (fC f).toArray) ?_ rfl ⟨rfl, (Par.wrote H11.out.env H11.out.par HBr (by decide) hgr12 Hgr.out.2.2.2.2.2).1, ?_⟩
  · exact results_blk (p := 2) (ty := 79) rfl _ _ gr (fC f) rfl hB12 _ Tryz.underlying79 rfl infoF
  · exact (Kept.since Hb3.out H11.out.kept Hgr.out.2.1).then_new hgr12 Hgr.out.2.2.1

end Go.Proofs.YtiofhfcohhfihaaGreatDoor
