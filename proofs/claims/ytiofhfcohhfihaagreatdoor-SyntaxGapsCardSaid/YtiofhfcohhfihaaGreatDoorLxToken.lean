/- Package lexer, walked: one token. -/
import Derived.Test.YtiofhfcohhfihaaGreatDoorLxText
namespace Go.Proofs.YtiofhfcohhfihaaGreatDoor
open Go.RowKit
set_option linter.unusedVariables false
set_option linter.unusedSimpArgs false

theorem tokRes_shape {A : Nat → Addr} {r : Lx.Res (Nat × Lx.Bs × Nat × Nat)} {e : Ending} (h : tokRes A r e) : ∃ (cs : List Value) (v : Int) (er : Value), cs.length = 5 ∧ (∀ u ∈ cs, u.oneCell' = true) ∧ e = .returned (.tuple #[.agg cs.toArray, .int .i64 v, er]) := by
  cases r with
  | bad m => obtain ⟨cs, v, h1, h2, h3⟩ := h; exact ⟨cs, v, _, h1, h2, h3⟩
  | ok x => obtain ⟨k, t, y, n⟩ := x; exact ⟨_, _, _, rfl, one_tok _ _ _ _ _, h⟩
theorem token_eq (b : UInt8) (r : Lx.Bs) : Lx.token (b :: r) = if Lx.inner b then wordOf (b :: r) b (Lx.run Lx.inner (b :: r)) else if ([34, 39] : Lx.Bs).contains b then textOf b r else if Lx.isSign b then .ok (4, [b], 0, 1) else .bad 9 := by
  unfold Lx.token wordOf textOf
  simp only
  by_cases h1 : Lx.inner b = true
  · simp only [h1, if_true]; rfl
  · by_cases h2 : b = 34 ∨ b = 39
    · have : ([34, 39] : Lx.Bs).contains b = true := by rcases h2 with rfl | rfl <;> rfl
      simp only [h1, h2, this, if_true, if_false]; rfl
    · have : ([34, 39] : Lx.Bs).contains b = false := by
        simp only [List.contains_cons, List.contains_nil, Bool.or_false, Bool.or_eq_false_iff, beq_eq_false_iff_ne]
        exact ⟨fun e => h2 (.inl e), fun e => h2 (.inr e)⟩
      simp only [h1, h2, this, if_false]; rfl

set_option maxHeartbeats 4000000 in
set_option maxRecDepth 100000 in
theorem token_any (A : Nat → Addr) (s : ByteArray) (w : World) (hv : Vars A w) (hs : s.size ≤ 50000) (h0 : 0 < s.size) :
    Calls Tryz.prog 33 #[.string s] w (TokRet A (Lx.token s.data.toList) w) := by
  have Hv := Lib.hid hv
  have h0z : (0 : Int) < (s.size : Int) := by omega
  have hh : s.data.toList = s[0] :: s.data.toList.drop 1 := by
    have h1 : 0 < s.data.toList.length := by rw [len_data]; exact h0
    have h2 := List.drop_eq_getElem_cons h1
    rw [List.drop_zero] at h2
    exact h2
  have htok : Lx.token s.data.toList = if Lx.inner s[0] then wordOf s.data.toList s[0] (Lx.run Lx.inner s.data.toList) else if ([34, 39] : Lx.Bs).contains s[0] then textOf s[0] (s.data.toList.drop 1) else if Lx.isSign s[0] then .ok (4, [s[0]], 0, 1) else .bad 9 := by
    have := token_eq s[0] (s.data.toList.drop 1)
    rw [← hh] at this
    exact this
  rw [htok]
  have HI := Lib.hid (fun w0 => inner_any s[0] w0)
  have HQ := Lib.hid (fun w0 => idxbyte_any ⟨#[34, 39]⟩ s[0] w0)
  have HS := Lib.hid (fun w0 => idxbyte_any ⟨#[123, 125, 91, 93, 60, 62, 40, 41, 59, 61, 44, 46, 45]⟩ s[0] w0)
  have hq := Lib.contains_iff_indexByte [34, 39] s[0]
  have hsg : Lx.isSign s[0] = decide ((0 : Int) ≤ Lib.indexByte [123, 125, 91, 93, 60, 62, 40, 41, 59, 61, 44, 46, 45] s[0]) := Lib.contains_iff_indexByte [123, 125, 91, 93, 60, 62, 40, 41, 59, 61, 44, 46, 45] s[0]
  rw [show (⟨#[34, 39]⟩ : ByteArray).data.toList = [34, 39] from rfl] at HQ
  rw [show (⟨#[123, 125, 91, 93, 60, 62, 40, 41, 59, 61, 44, 46, 45]⟩ : ByteArray).data.toList = [123, 125, 91, 93, 60, 62, 40, 41, 59, 61, 44, 46, 45] from rfl] at HS
  rw [hq, hsg]
  have Hpre : Hid (s.extract 0 1 = toB [s[0]]) := Lib.hid (by rw [extract_pre, hh]; rfl)
  have hgl := Hv.out.lt.2.2.1
  have HW := Lib.hid (fun w0 (h : Vars A w0) => word_any A s w0 h hs h0)
  have HT := Lib.hid (fun w0 (h : Vars A w0) => text_any A s w0 h hs h0)
  generalize Lib.indexByte [34, 39] s[0] = q at *
  generalize Lib.indexByte [123, 125, 91, 93, 60, 62, 40, 41, 59, 61, 44, 46, 45] s[0] = sg at *
  generalize Lx.inner s[0] = i at *
  clear hv hh htok hq hsg
  cases i
  · simp only [Bool.false_eq_true, if_false]
    clear HW
    by_cases hq : 0 ≤ q
    · simp only [decide_eq_true hq, if_true]
      generalize textOf s[0] (s.data.toList.drop 1) = res at *
      go_enter Tryz.func33, Tryz.ntmps33
      go_upto_region 5 with (first
        | (refine wpList_alloc_lay rfl 35 rfl zT zeroT ?_; (intro w1 g1 hg1 hB1 hb1))
        | (go_at_call 69; (with_reducible refine (HI.out _).mono ?_); rintro e w2 ⟨rfl, rfl⟩)
        | (go_at_call 67; (with_reducible refine (HQ.out _).mono ?_); rintro e w2 ⟨rfl, rfl⟩))
      have Hv1 := Lib.hid (Hv.out.below hb1)
      go_wp2_with (first
        | (go_at_call 71; (with_reducible refine (HT.out _ Hv1.out).mono ?_); rintro e w2 ⟨ht, hb2⟩; obtain ⟨cs, v, er, hl, h1, rfl⟩ := tokRes_shape ht; replace hB1 := hB1.below hb2 hB1.lt; replace hb1 := hb1.trans (hb2.mono hb1.size); have HT2 := Lib.hid ht; have Hl := Lib.hid hl; have H1 := Lib.hid h1; clear hb2 ht hl h1)
        | (refine wpList_store_all rfl 35 _ _ rfl g1 cs rfl rfl zT hB1 ?_ ?_ H1.out ?_; (· exact infoT.trans (congrArg some Hl.out.symm)); (· exact Hl.out); (intro w9 hB9 hgr; replace hb1 := Below.grown hb1 hgr hb1.size (fun _ e => by cases e; exact hg1); clear hgr)))
      refine bodyPost_ret (v := .tuple #[.agg cs.toArray, .int .i64 v, er]) ?_ rfl ⟨HT2.out, hb1⟩
      exact results_blk3 (p := 2) (u := 3) (v := 4) (ty := 35) rfl _ _ g1 _ rfl hB9 _ Tryz.underlying35 rfl (infoT.trans (congrArg some Hl.out.symm))
    · simp only [decide_eq_false hq, Bool.false_eq_true, if_false]
      clear HT
      by_cases hs2 : 0 ≤ sg
      · simp only [decide_eq_true hs2, if_true]
        go_enter Tryz.func33, Tryz.ntmps33
        go_upto_region 4 with (first
          | (refine wpList_alloc_lay rfl 35 rfl zT zeroT ?_; (intro w1 g1 hg1 hB1 hb1))
          | (go_at_call 69; (with_reducible refine (HI.out _).mono ?_); rintro e w2 ⟨rfl, rfl⟩))
        go_upto_region 6 with (first
          | (go_at_call 67; (with_reducible refine (HQ.out _).mono ?_); rintro e w2 ⟨rfl, rfl⟩))
        go_wp2_with (first
          | (go_at_call 67; (with_reducible refine (HS.out _).mono ?_); rintro e w2 ⟨rfl, rfl⟩)
          | (refine wpList_store_all rfl 35 _ _ rfl g1 _ rfl rfl zT hB1 infoT rfl ?_ ?_; (· exact one_tok _ _ _ _ _); (intro w9 hB9 hgr; rw [Hpre.out] at hB9; replace hb1 := Below.grown hb1 hgr hb1.size (fun _ e => by cases e; exact hg1); clear hgr)))
        refine bodyPost_ret (v := .tuple #[.agg (tokC 4 [s[0]] 0 0 0).toArray, .int .i64 1, .nilIface]) ?_ rfl ⟨rfl, hb1⟩
        exact results_blk3 (p := 2) (u := 3) (v := 4) (ty := 35) rfl _ _ g1 _ rfl hB9 _ Tryz.underlying35 rfl infoT
      · simp only [decide_eq_false hs2, Bool.false_eq_true, if_false]
        go_enter Tryz.func33, Tryz.ntmps33
        go_upto_region 4 with (first
          | (refine wpList_alloc_lay rfl 35 rfl zT zeroT ?_; (intro w1 g1 hg1 hB1 hb1))
          | (go_at_call 69; (with_reducible refine (HI.out _).mono ?_); rintro e w2 ⟨rfl, rfl⟩))
        go_upto_region 6 with (first
          | (go_at_call 67; (with_reducible refine (HQ.out _).mono ?_); rintro e w2 ⟨rfl, rfl⟩))
        have hform := (Hv.out.below hb1).form
        unfold errV at hform
        obtain ⟨c0, c1, c2, c3, c4, f0, f1, f2, f3, f4⟩ := ZB.of hB1
        have hgn1 : ¬ (g1 = 1) := by omega
        have hgn2 : ¬ (1 = g1) := by omega
        have HB1 := Lib.hid hB1; have Hb1 := Lib.hid hb1
        clear hB1 hb1
        go_upto_region 8 with (first
          | (go_at_call 67; (with_reducible refine (HS.out _).mono ?_); rintro e w2 ⟨rfl, rfl⟩))
        go_region
        all_goals
          go_wp2
          refine bodyPost_ret (v := .tuple #[.agg zT.toArray, .int .i64 0, errV (A 8)]) ?_ rfl ⟨tok_bad rfl (one_tok _ _ _ _ _) rfl, (zSet_below Hb1.out hg1).drew⟩
          exact results_blk3 (p := 2) (u := 3) (v := 4) (ty := 35) rfl _ _ g1 zT rfl (zSet_blk HB1.out) _ Tryz.underlying35 rfl infoT
  · simp only [if_true]
    clear HT
    generalize wordOf s.data.toList s[0] (Lx.run Lx.inner s.data.toList) = res at *
    go_enter Tryz.func33, Tryz.ntmps33
    go_upto_region 3 with (first
      | (refine wpList_alloc_lay rfl 35 rfl zT zeroT ?_; (intro w1 g1 hg1 hB1 hb1))
      | (go_at_call 69; (with_reducible refine (HI.out _).mono ?_); rintro e w2 ⟨rfl, rfl⟩))
    have Hv1 := Lib.hid (Hv.out.below hb1)
    go_wp2_with (first
      | (go_at_call 70; (with_reducible refine (HW.out _ Hv1.out).mono ?_); rintro e w2 ⟨ht, hb2⟩; obtain ⟨cs, v, er, hl, h1, rfl⟩ := tokRes_shape ht; replace hB1 := hB1.below hb2 hB1.lt; replace hb1 := hb1.trans (hb2.mono hb1.size); have HT2 := Lib.hid ht; have Hl := Lib.hid hl; have H1 := Lib.hid h1; clear hb2 ht hl h1)
      | (refine wpList_store_all rfl 35 _ _ rfl g1 cs rfl rfl zT hB1 ?_ ?_ H1.out ?_; (· exact infoT.trans (congrArg some Hl.out.symm)); (· exact Hl.out); (intro w9 hB9 hgr; replace hb1 := Below.grown hb1 hgr hb1.size (fun _ e => by cases e; exact hg1); clear hgr)))
    refine bodyPost_ret (v := .tuple #[.agg cs.toArray, .int .i64 v, er]) ?_ rfl ⟨HT2.out, hb1⟩
    exact results_blk3 (p := 2) (u := 3) (v := 4) (ty := 35) rfl _ _ g1 _ rfl hB9 _ Tryz.underlying35 rfl (infoT.trans (congrArg some Hl.out.symm))

end Go.Proofs.YtiofhfcohhfihaaGreatDoor
