/- Package syntax, walked: an enum's value. -/
import Derived.Test.YtiofhfcohhfihaaGreatDoorSxField
namespace Go.Proofs.YtiofhfcohhfihaaGreatDoor
open Go.RowKit
set_option linter.unusedVariables false
set_option linter.unusedSimpArgs false

/-- the parser at s, a struct's block at cs: since w0 only these two were turned -/
structure SAt (A : Nat → Addr) (p g : Nat) (v : Value) (ts : List Lx.Tok) (w0 : World) (s : Sx.St) (cs : List Value) (w : World) : Prop where
  par : Par A p v ts s w
  env : Env A p v ts w
  blk : Blk w g cs
  kept : Kept [p, g] w0 w
  lt : p < g
  ne : cs.length ≠ 3
theorem SAt.call {A : Nat → Addr} {p g : Nat} {v : Value} {ts : List Lx.Tok} {w0 w w' : World} {s s' : Sx.St} {cs : List Value} (h : SAt A p g v ts w0 s cs w) (hp : Par A p v ts s' w') (hk : Kept [p] w w') : SAt A p g v ts w0 s' cs w' :=
  ⟨hp, h.env.kept hk h.par.lt (fun k hm => by rw [List.mem_singleton.1 hm]; exact Nat.le_refl _), hk.blk h.blk (by have := h.lt; simp; omega), h.kept.trans (hk.mono (fun k hm _ => by rw [List.mem_singleton.1 hm]; simp)), h.lt, h.ne⟩
theorem SAt.below {A : Nat → Addr} {p g : Nat} {v : Value} {ts : List Lx.Tok} {w0 w w' : World} {s : Sx.St} {cs : List Value} (h : SAt A p g v ts w0 s cs w) (hb : Below w.heap.size w w') : SAt A p g v ts w0 s cs w' :=
  h.call (h.par.below hb) (Kept.of_below hb)
theorem SAt.wrote {A : Nat → Addr} {p g : Nat} {v : Value} {ts : List Lx.Tok} {w0 w w' : World} {s : Sx.St} {cs cs' : List Value} (h : SAt A p g v ts w0 s cs w) (hB : Blk w' g cs') (hn : cs'.length ≠ 3) (hg : w.grownBy w' (some g)) : SAt A p g v ts w0 s cs' w' :=
  have h1 := Par.wrote h.env h.par h.blk h.ne hg h.lt
  ⟨h1.1, h1.2, hB, h.kept.trans (Kept.of_grown hg (by simp)), h.lt, hn⟩
theorem val_build (a b : Int) (t : ByteArray) (w : World) : (Instr.build 148 #[(0, .string t), (2, .int .i64 a), (3, .int .i64 b)]).run Tryz.prog w = .ok (.agg #[.string t, .int .i64 0, .int .i64 a, .int .i64 b]) w := by kernel_rfl
def ValPost (A : Nat → Addr) (p : Nat) (v : Value) (ts : List Lx.Tok) (w : World) (r : Sx.Val × Sx.St) (e : Ending) (w' : World) : Prop :=
  e = .returned (.agg (vC r.1).toArray) ∧ Par A p v ts r.2 w' ∧ Kept [p] w w'

set_option maxHeartbeats 8000000 in
set_option maxRecDepth 100000 in
theorem value_any (A : Nat → Addr) (p : Nat) (v : Value) (ts : List Lx.Tok) (s : Sx.St) (w : World) (hE : Env A p v ts w) (hP : Par A p v ts s w) :
    Calls Tryz.prog 81 #[.pointer (some ⟨p, 0, none⟩)] w (ValPost A p v ts w (Sx.value ts s)) := by
  have Hv := Lib.hid hE; have Hp := Lib.hid hP; have Hplt := Lib.hid hP.lt
  have Hsm := Lib.hid hE.small
  obtain ⟨R, hR⟩ : ∃ R, R = Sx.value ts s := ⟨_, rfl⟩
  rw [← hR]
  have HR := Lib.hid hR
  have hfd := field_num
  have hbd := val_build
  clear hR hE hP
  go_enter Tryz.func81, Tryz.ntmps81
  go_upto_region 1 with (first
    | (refine wpList_alloc_lay rfl 148 rfl zVl zeroVl ?_; (intro w1 gr hgr hBr hb1)))
  have HN := Lib.hid (name_arr A p v ts s w1 (Hv.out.below (hb1.mono (Nat.le_of_lt Hplt.out))).vars (Hp.out.below hb1))
  have HE1 := Lib.hid (Hv.out.below (hb1.mono (Nat.le_of_lt Hplt.out)))
  have Hb1 := Lib.hid hb1; have HBr := Lib.hid hBr; have Hgr := Lib.hid hgr
  have Hne := Lib.hid (show p < gr from Nat.lt_of_lt_of_le Hplt.out hgr)
  clear hb1 hBr hgr
  obtain ⟨N, hN⟩ : ∃ N, N = Sx.of ts 1 s := ⟨_, rfl⟩
  rw [← hN] at HN
  have HNe := Lib.hid hN
  obtain ⟨x, s1⟩ := N
  simp only at HN
  clear hN
  go_upto_region 2 with (first
    | (go_at_call 78; (with_reducible refine HN.out.mono ?_); rintro e w2 ⟨rfl, hp2, hk2⟩; have HE2 := Lib.hid (HE1.out.kept hk2 (Nat.lt_of_lt_of_le Hplt.out Hb1.out.size) (fun k hm => by rw [List.mem_singleton.1 hm]; exact Nat.le_refl _)); have HP2 := Lib.hid hp2; have HK2 := Lib.hid ((Kept.of_below Hb1.out).trans hk2); have HBr2 := Lib.hid (hk2.blk HBr.out (by have := Hne.out; simp; omega)); clear hp2 hk2)
    | (refine wpList_alloc_lay rfl 35 rfl zT zeroT ?_; (intro w3 g5 hg5 hB5 hb3))
    | (refine wpList_store_all rfl 35 _ _ rfl g5 (tC x) rfl rfl zT hB5 infoT rfl (one_tC x) ?_; (intro w4 hB6 hgr4; have hb4 := Below.grown hb3 hgr4 hb3.size (fun _ e => by cases e; exact hg5); clear hb3 hgr4 hB5)))
  have d1 : w4.cell? ⟨g5, 1, none⟩ = some (.string (toB x.text)) := hB6.cell (o := 1) rfl
  have d3 : w4.cell? ⟨g5, 3, none⟩ = some (.int .i64 x.line) := hB6.cell (o := 3) rfl
  have d4 : w4.cell? ⟨g5, 4, none⟩ = some (.int .i64 x.col) := hB6.cell (o := 4) rfl
  have Hb4 := Lib.hid hb4
  clear hB6 hg5 hb4
  go_upto_region 3 with (first
    | (refine wpList_alloc_lay rfl 148 rfl zVl zeroVl ?_; (intro w5 gv hgv hBv hb5))
    | (refine wpList_store_all rfl 148 _ _ rfl gv [.string (toB x.text), .int .i64 0, .int .i64 x.line, .int .i64 x.col] rfl rfl zVl hBv infoVl rfl ?_ ?_; (· exact one_vC ⟨x.text, 0, x.line, x.col⟩); (intro w6 hB6 hgr6; have hb6 := Below.grown hb5 hgr6 hb5.size (fun _ e => by cases e; exact hgv); clear hb5 hgr6 hBv)))
  have Hb6 : Hid (Below w2.heap.size w2 w6) := Lib.hid (Hb4.out.trans (hb6.mono Hb4.out.size))
  have hgv2 : w2.heap.size ≤ gv := Nat.le_trans Hb4.out.size hgv
  have Hgv : Hid (Blk w6 gr zVl ∧ w.heap.size ≤ gv ∧ w.heap.size ≤ gr ∧ gr ≠ gv ∧ p < gv ∧ p < gr) := Lib.hid ⟨HBr2.out.below Hb6.out HBr2.out.lt, Nat.le_trans HK2.out.size hgv2, Hgr.out, fun e => by have := HBr2.out.lt; omega, by have := Hplt.out; have := HK2.out.size; omega, Hne.out⟩
  have H6 : Hid (SAt A p gv v ts w6 s1 [.string (toB x.text), .int .i64 0, .int .i64 x.line, .int .i64 x.col] w6) := Lib.hid ⟨HP2.out.below Hb6.out, HE2.out.below (Hb6.out.mono (by have := Hplt.out; have := HK2.out.size; omega)), hB6, Kept.refl _ _, Hgv.out.2.2.2.2.1, (show (4 : Nat) ≠ 3 by decide)⟩
  have HK6 : Hid (Kept [p] w w6) := Lib.hid (HK2.out.trans (Kept.of_below Hb6.out))
  clear hB6 hgv hgv2 hb6 d1 d3 d4
  have HS := Lib.hid (sign_any A p 61 v ts s1 w6 H6.out.env.vars H6.out.env.glt H6.out.par)
  go_wp2_with fail
  refine HS.out.mono ?_
  rintro e w7 ⟨rfl, hp7, hk7⟩
  have H7 := Lib.hid (H6.out.call hp7 hk7)
  clear hp7 hk7
  have HT := Lib.hid (takes_any A p 4 (by decide) v ts _ [45] w7 H7.out.par)
  obtain ⟨N, hN⟩ : ∃ N, N = Sx.takes ts 4 [45] (Sx.sign ts 61 s1) := ⟨_, rfl⟩
  rw [← hN] at HT
  have HTe := Lib.hid hN
  obtain ⟨b, s2⟩ := N
  simp only at HT
  clear hN
  go_wp2_with fail
  refine HT.out.mono ?_
  rintro e w8 ⟨rfl, hp8, hk8⟩
  have H8 := Lib.hid (H7.out.call hp8 hk8)
  clear hp8 hk8
  have HO := Lib.hid (of_arr A p 2 (by decide) v ts s2 w8 H8.out.env.vars H8.out.par)
  have hnum := of_num Hsm.out 2 s2
  obtain ⟨M, hM⟩ : ∃ M, M = Sx.of ts 2 s2 := ⟨_, rfl⟩
  rw [← hM] at HO hnum
  have HMe := Lib.hid hM
  obtain ⟨y, s3⟩ := M
  simp only at HO hnum
  clear hM
  go_wp2_with fail
  refine HO.out.mono ?_
  rintro e w9 ⟨rfl, hp9, hk9⟩
  have H9 := Lib.hid (H8.out.call hp9 hk9)
  clear hp9 hk9
  have HB9 := H9.out.blk
  go_upto_region 6 with (first
    | (refine wpList_store_blk1 rfl 3 _ _ rfl gv 1 (.int .i64 y.num) rfl rfl _ HB9 info_int1 ?_ rfl ?_; (· show 1 + 1 ≤ 4; decide); (intro w10 hB10 hgr10 hsz)))
  have H10 : Hid (SAt A p gv v ts w6 s3 (vC ⟨x.text, y.num, x.line, x.col⟩) w10) := Lib.hid (H9.out.wrote hB10 (show (4 : Nat) ≠ 3 by decide) hgr10)
  have HEnd : Hid (R = (⟨x.text, if b then -(y.num : Int) else y.num, x.line, x.col⟩, Sx.sign ts 59 s3)) := Lib.hid (by
    rw [HR.out]; unfold Sx.value
    have e1 := HNe.out; have e2 := HTe.out; have e3 := HMe.out
    rw [← e1]; dsimp only; rw [← e2]; dsimp only; rw [← e3])
  clear hB10 hgr10 hsz HB9
  cases b
  · skip
    have HS2 := Lib.hid (sign_any A p 59 v ts s3 w10 H10.out.env.vars H10.out.env.glt H10.out.par)
    go_wp2_with fail
    refine HS2.out.mono ?_
    rintro e w13 ⟨rfl, hp13, hk13⟩
    have H13 := Lib.hid (H10.out.call hp13 hk13)
    clear hp13 hk13
    have HB13 := H13.out.blk.whole
    have HBr := H13.out.kept.blk Hgv.out.1 (by have := Hgv.out; simp; omega)
    go_wp2_with (first
      | (refine wpList_load_seg rfl 148 _ rfl _ _ rfl _ _ HB13 Tryz.underlying148 rfl infoVl ?_)
      | (refine wpList_store_all rfl 148 _ _ rfl gr (vC ⟨x.text, y.num, x.line, x.col⟩) rfl rfl zVl HBr infoVl rfl (one_vC _) ?_; (intro w14 hB14 hgr14)))
    rw [HEnd.out]
    refine bodyPost_ret (v := .agg (vC ⟨x.text, y.num, x.line, x.col⟩).toArray) ?_ rfl ⟨rfl, (Par.wrote H13.out.env H13.out.par HBr (by decide) hgr14 Hgv.out.2.2.2.2.2).1, ?_⟩
    · exact results_blk (p := 2) (ty := 148) rfl _ _ gr (vC ⟨x.text, y.num, x.line, x.col⟩) rfl hB14 _ Tryz.underlying148 rfl infoVl
    · exact ((HK6.out.trans2 H13.out.kept Hgv.out.2.1).then_new hgr14 Hgv.out.2.2.1)
  · have c1 : w10.cell? ⟨gv, 1, none⟩ = some (.int .i64 y.num) := H10.out.blk.cell (o := 1) rfl
    have HB10 := H10.out.blk
    have hnum2 : (y.num : Int) ≤ 2147483648 := by omega
    go_upto_region 8 with (first
      | (refine wpList_store_blk1 rfl 3 _ _ rfl gv 1 (.int .i64 (-(y.num : Int))) rfl rfl _ HB10 info_int1 ?_ rfl ?_; (· show 1 + 1 ≤ 4; decide); (intro w11 hB11 hgr11 hsz)))
    have H11 : Hid (SAt A p gv v ts w6 s3 (vC ⟨x.text, -(y.num : Int), x.line, x.col⟩) w11) := Lib.hid (H10.out.wrote hB11 (show (4 : Nat) ≠ 3 by decide) hgr11)
    clear hB11 hgr11 hsz HB10 c1
    have HS2 := Lib.hid (sign_any A p 59 v ts s3 w11 H11.out.env.vars H11.out.env.glt H11.out.par)
    go_wp2_with fail
    refine HS2.out.mono ?_
    rintro e w13 ⟨rfl, hp13, hk13⟩
    have H13 := Lib.hid (H11.out.call hp13 hk13)
    clear hp13 hk13
    have HB13 := H13.out.blk.whole
    have HBr := H13.out.kept.blk Hgv.out.1 (by have := Hgv.out; simp; omega)
    go_wp2_with (first
      | (refine wpList_load_seg rfl 148 _ rfl _ _ rfl _ _ HB13 Tryz.underlying148 rfl infoVl ?_)
      | (refine wpList_store_all rfl 148 _ _ rfl gr (vC ⟨x.text, -(y.num : Int), x.line, x.col⟩) rfl rfl zVl HBr infoVl rfl (one_vC _) ?_; (intro w14 hB14 hgr14)))
    rw [HEnd.out]
    refine bodyPost_ret (v := .agg (vC ⟨x.text, -(y.num : Int), x.line, x.col⟩).toArray) ?_ rfl ⟨rfl, (Par.wrote H13.out.env H13.out.par HBr (by decide) hgr14 Hgv.out.2.2.2.2.2).1, ?_⟩
    · exact results_blk (p := 2) (ty := 148) rfl _ _ gr (vC ⟨x.text, -(y.num : Int), x.line, x.col⟩) rfl hB14 _ Tryz.underlying148 rfl infoVl
    · exact ((HK6.out.trans2 H13.out.kept Hgv.out.2.1).then_new hgr14 Hgv.out.2.2.1)

end Go.Proofs.YtiofhfcohhfihaaGreatDoor
