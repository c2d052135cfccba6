/- The reference redlineref08, walked: options. -/
import Derived.Test.YtpcfdngnmigkfaaGreatDoorRyOpt0
import Derived.Deep.CutRange
set_option linter.unusedVariables false
set_option linter.unusedSimpArgs false
namespace Go.Proofs.YtpcfdngnmigkfaaGreatDoor
open Go.RowKit
set_option maxHeartbeats 8000000 in
set_option maxRecDepth 100000 in
theorem roptions_yes (v : Value) (ts : List Lx.Tok) (hS : Small ts) (f : Sx.Fld) (i : Nat) (w : World) (h : FlatV tC (frag w) v ts) (hi : i ≤ 950000) (hb : Sy.isAt ts i 4 [91] = true) :
  Calls Tryz.prog 111 #[v, .agg (fC f).toArray, .int .i64 i] w (R3 w (fC (Sy.options ts f i).1) (Sy.options ts f i).2.1 (Sy.options ts f i).2.2) := by
 obtain ⟨ad, cap, rfl, _, _, _⟩ := h.len
 obtain ⟨R, hR⟩ : ∃ R, R = Sy.options ts f i := ⟨_, rfl⟩
 rw [← hR]
 rw [Sy.options_end] at hR
 have HI := Yq (fun j k t w0 (hb : Below w.heap.size w w0) => is_any (.slice ad ts.length cap) ts j k t w0 (h.mono (below_le hb)))
 have HNm := Yq (fun j w0 (hb : Below w.heap.size w w0) (hj : j ≤ 1000000) => rname_any (.slice ad ts.length cap) ts j w0 (h.mono (below_le hb)) hj)
 have HW := Yq (fun j t g w0 (hb : Below w.heap.size w w0) hx hne hj => want1_any (.slice ad ts.length cap) ts j t g w0 (h.mono (below_le hb)) hx hne hj)
 unfold R3 at HNm
 unfold R2 at HW
 have Hfew := Yq hS.few
 have HO := Own.nil w
 obtain ⟨m, hm0⟩ : ∃ m, m = ts.length := ⟨_, rfl⟩
 rw [← hm0] at HI HNm HW Hfew hR ⊢
 have HM := Yq hm0.symm
 have HR := Yq hR
 clear hm0 hR h hS
 have HI0 := Yq (fun w0 hb => HI.out i 4 [91] w0 hb)
 rw [hb] at HI0
 have HR1 : Hid (R = Sy.optEnd ts (Sy.optionsL ts (m + 1) f i)) := Yq (by rw [HR.out, hb, if_pos rfl])
 clear HR hb
 go_enter Tryz.func111, Tryz.ntmps111
 go_upto_region 1 with (first
 | (refine wpList_box_own rfl 110 _ rfl (fC f) rfl HO ?_; clear HO; intro w1 gF HO)
 | (refine wpList_alloc_own rfl 110 rfl zF zeroF8 HO ?_; clear HO; intro w1 g1 HO)
 | (refine wpList_alloc_own rfl 100 rfl zSt zeroStp HO ?_; clear HO; intro w1 g2 HO)
 | fail)
 go_wp2_with (go_at_call 59; (refine (HI0.out _ HO.below).mono ?_); rintro e w3 ⟨rfl, rfl⟩)
 have HO1 := Yq HO
 clear HO HI0
 go_loopg [2] (m + 1) (fun fu av wr => ∃ (f : Sx.Fld) (j : Nat), av = .int .i64 j ∧ Hid (Own w [(g2, zSt), (g1, zF), (gF, fC f)] wr) ∧ Hid (R = Sy.optEnd ts (Sy.optionsL ts fu f j)) ∧ 1 ≤ fu ∧ m < fu + j ∧ j ≤ 950000)
 case atStart => exact ⟨f, i, rfl, HO1, HR1, by omega, by omega, hi⟩
 case round =>
  clear HO1 HR1
  obtain ⟨f, j, rfl, HO, HR, hf1, hf2, hj⟩ := hrel
  obtain ⟨fu, rfl⟩ : ∃ n, gk = n + 1 := ⟨gk - 1, by omega⟩
  replace HO := HO.out
  go_upto_region 3 with fail
  go_cut [29] from 20 to 107 (fun s29 wx => s29 = .bool (Sy.isAt ts (j + 1) 1 Sx.bPacked && decide (f.packed = 0)) ∧ wx = wr)
  case first =>
   have HI1 := Yq (fun w0 hb => HI.out (j + 1) 1 Sx.bPacked w0 hb)
   have c6 : wr.cell? ⟨gF, 6, none⟩ = some (.int .i64 f.packed) := (HO.at 2 rfl).cell (o := 6) rfl
   have q6 : ((f.packed : Int) == 0) = decide (f.packed = 0) := by
    by_cases h : f.packed = 0
    ·rw [h]; rfl
    ·rw [decide_eq_false h, beq_eq_false_iff_ne]; omega
   cases hp : Sy.isAt ts (j + 1) 1 Sx.bPacked
   ·rw [hp] at HI1
    go_wp2_with (go_at_call 59; (refine (HI1.out _ HO.below).mono ?_); rintro e w3 ⟨rfl, rfl⟩)
    go_meet
    exact ⟨congrArg Value.bool (by rw [hp, Bool.false_and]), rfl⟩
   ·rw [hp] at HI1
    go_wp2_with (go_at_call 59; (refine (HI1.out _ HO.below).mono ?_); rintro e w3 ⟨rfl, rfl⟩)
    go_meet
    exact ⟨congrArg Value.bool (by rw [hp, Bool.true_and]), rfl⟩
  case rest =>
   obtain ⟨h29, rfl⟩ := hcut
   subst h29
   go_upto_if 29 with fail
   go_cut [2, 9, 10, 11, 12, 13] from 20 to 107 (fun s2 s9 s10 s11 s12 s13 wx => ∃ (f' : Sx.Fld) (p : Nat), s2 = .int .i64 p ∧ Hid (Own w [(g2, zSt), (g1, zF), (gF, fC f')] wx) ∧ Hid (R = Sy.optEnd ts (Sy.optMid ts fu f' p)) ∧ j + 1 ≤ p ∧ p ≤ j + 4)
   case first =>
    cases hB : (Sy.isAt ts (j + 1) 1 Sx.bPacked && decide (f.packed = 0))
    ·go_upto_region 13 with fail
     go_cut [68] from 20 to 107 (fun s68 wx => s68 = .bool (Sy.isAt ts (j + 1) 1 Sx.bKey && decide (f.key.length = 0)) ∧ wx = wc)
     case first =>
      have HI1 := Yq (fun w0 hb => HI.out (j + 1) 1 Sx.bKey w0 hb)
      have c3 : wc.cell? ⟨gF, 3, none⟩ = some (.string (toB f.key)) := (HO.at 2 rfl).cell (o := 3) rfl
      have q3 : (((toB f.key).size : Int) == 0) = decide (f.key.length = 0) := by
       rw [toB_size]
       by_cases h : f.key.length = 0
       ·rw [h]; rfl
       ·rw [decide_eq_false h, beq_eq_false_iff_ne]; omega
      cases hp : Sy.isAt ts (j + 1) 1 Sx.bKey
      ·rw [hp] at HI1
       go_wp2_with (go_at_call 59; (refine (HI1.out _ HO.below).mono ?_); rintro e w3 ⟨rfl, rfl⟩)
       go_meet
       exact ⟨congrArg Value.bool (by rw [hp, Bool.false_and]), rfl⟩
      ·rw [hp] at HI1
       go_wp2_with (go_at_call 59; (refine (HI1.out _ HO.below).mono ?_); rintro e w3 ⟨rfl, rfl⟩)
       go_meet
       exact ⟨congrArg Value.bool (by rw [hp, Bool.true_and]; all_goals simp), rfl⟩
     case rest =>
      obtain ⟨h68, rfl⟩ := hcut
      subst h68
      cases hK : (Sy.isAt ts (j + 1) 1 Sx.bKey && decide (f.key.length = 0))
      ·have HRe : Hid (R = (f, j + 1, Sy.bad (j + 1))) := Yq (by rw [HR.out]; exact Sy.opt_bad (by unfold Sy.option1; rw [if_neg (fun e => by rw [e.1, decide_eq_true e.2] at hB; cases hB), if_neg (fun e => by rw [e.1, decide_eq_true e.2] at hK; cases hK)]) (by simp [Sy.bad]))
       clear HR hB hK
       go_upto_region 22 with fail
       refine wp_ret7 (by kernel_rfl) (by kernel_rfl) rfl (fun _ _ _ _ _ h => h) HO (.int .i64 (j + 1)) (.int .i64 (j + 1)) 2 1 0 rfl rfl rfl (by decide) (by decide) rfl (by kernel_rfl) (.inl rfl) (by kernel_rfl) (.inl rfl) (by kernel_rfl) rfl (fun _ => by kernel_rfl) (bad_any (j + 1)) rfl rfl (by kernel_rfl) (by kernel_rfl) (.inr rfl) (by kernel_rfl) rfl rfl (by kernel_rfl) (by kernel_rfl) Tryz.underlying110 rfl infoF8 rfl (one_fC _) infoStp rfl (one_stC _) ?_
       intro w9 HO9
       go_wp2_with fail
       rw [HRe.out]
       refine bodyPost_ret (v := .tuple #[.agg (fC f).toArray, .int .i64 (j + 1), .agg (stC (Sy.bad (j + 1))).toArray]) ?_ rfl ⟨rfl, HO9.below⟩
       exact results_ctc rfl (by kernel_rfl) (by kernel_rfl) (by kernel_rfl) (run_load_blk (HO9.at 1 rfl) _ Tryz.underlying110 rfl infoF8) (run_load_blk (HO9.at 0 rfl) _ Tryz.underlying100 rfl infoStp)
      ·have hpk : f.key.length = 0 := of_decide_eq_true (Bool.and_eq_true_iff.1 hK).2
       have hpw := (Bool.and_eq_true_iff.1 hK).1
       have HW1 := Yq (fun g w0 hb hx => HW.out (j + 1 + 1) [61] g w0 hb hx (by decide) (by omega))
       have hle := Sy.want_le ts [[61]] (j + 1 + 1)
       have hge := Sy.want_ge ts [[61]] (j + 1 + 1)
       simp only [List.length_cons, List.length_nil] at hle
       have Ho1 : Hid (Sy.option1 ts f (j + 1) = if (Sy.want ts (j + 1 + 1) [[61]]).2.2 ≠ 0 then (f, j + 1, (Sy.want ts (j + 1 + 1) [[61]]).2) else if (Sy.name ts (Sy.want ts (j + 1 + 1) [[61]]).1).2.2.2 ≠ 0 then (f, j + 1, (Sy.name ts (Sy.want ts (j + 1 + 1) [[61]]).1).2.2) else ({ f with key := (Sy.name ts (Sy.want ts (j + 1 + 1) [[61]]).1).1.text }, (Sy.name ts (Sy.want ts (j + 1 + 1) [[61]]).1).2.1, Sy.none0)) := Yq (by
        unfold Sy.option1; rw [if_neg (fun e => by rw [e.1, decide_eq_true e.2] at hB; cases hB), if_pos ⟨hpw, hpk⟩])
       generalize Sy.want ts (j + 1 + 1) [[61]] = A at *
       obtain ⟨n, s⟩ := A
       dsimp only at HW1 hle hge Ho1
       clear hpk hpw
       go_upto_region 15 with (first
        | (refine wpList_str1_own rfl _ rfl HO ?_; clear HO; intro w7 g7 HO)
        | (go_at_call 57; (refine (HW1.out _ _ HO.below (HO.at 0 rfl)).mono ?_); rintro e w8 ⟨rfl, hb⟩; replace HO := (HO.call hb).sub (List.sublist_cons_self _ _); clear hb)
        | (refine wpList_alloc_own rfl 100 rfl zSt zeroStp HO ?_; clear HO; intro w1 g12 HO)
        | (refine wpList_store_own 0 rfl 100 _ _ rfl _ 0 (stC s) rfl rfl HO rfl infoStp (Nat.le_refl _) (one_stC _) rfl ?_; clear HO; intro w6 HO)
        | fail)
       by_cases h0 : s.2 = 0
       ·have e1 : w6.cell? ⟨_, 1, none⟩ = some (.int .i64 0) := ((HO.at 0 rfl).cell (o := 1) rfl).trans (by rw [show ((s.2 : Nat) : Int) = 0 by omega])
        have HN1 := Yq (fun w0 hb => HNm.out n w0 hb (by omega))
        have hle2 := Sy.name_le ts n
        have hge2 := Sy.name_ge ts n
        generalize Sy.name ts n = B at *
        obtain ⟨x, p, s4⟩ := B
        dsimp only at HN1 hle2 hge2 Ho1
        go_upto_region 18 with (first
         | (go_at_call 81; (refine (HN1.out _ HO.below).mono ?_); rintro e w3 ⟨rfl, hb⟩; replace HO := HO.call hb; clear hb)
         | (refine wpList_alloc_own rfl 95 rfl zT zeroRTk HO ?_; clear HO; intro w1 g13 HO)
         | (refine wpList_store_own 0 rfl 95 _ _ rfl _ 0 (tC x) rfl rfl HO rfl infoRTk (Nat.le_refl _) (one_tC _) rfl ?_; clear HO; intro w6 HO)
         | (refine wpList_store_own 1 rfl 100 _ _ rfl _ 0 (stC s4) rfl rfl HO rfl infoStp (Nat.le_refl _) (one_stC _) rfl ?_; clear HO; intro w5 HO)
         | fail)
        by_cases h1 : s4.2 = 0
        ·have e1 : w5.cell? ⟨_, 1, none⟩ = some (.int .i64 0) := ((HO.at 1 rfl).cell (o := 1) rfl).trans (by rw [show ((s4.2 : Nat) : Int) = 0 by omega])
         have e2 : w5.cell? ⟨_, 1, none⟩ = some (.string (toB x.text)) := (HO.at 0 rfl).cell (o := 1) rfl
         have HR1 : Hid (R = Sy.optEnd ts (Sy.optMid ts fu { f with key := x.text } p)) := Yq (by rw [HR.out]; exact Sy.opt_ok (by rw [Ho1.out, if_neg (by simpa using h0), if_neg (by simpa using h1)]) rfl)
         clear HR Ho1
         go_wp2_with (first
         | (refine wpList_store_own1 (ds := fC { f with key := x.text }) 4 rfl 9 _ _ rfl _ 3 (.string (toB x.text)) rfl rfl HO rfl infoS1 ?_ rfl rfl ?_; (· show 3 + 1 ≤ 10; decide); (clear HO; intro w9 HO))
         | fail)
         go_meet
         exact ⟨{ f with key := x.text }, p, by go_num, Yq (HO.sub (.cons _ (.cons _ (List.Sublist.refl _)))), HR1, by omega, by omega⟩
        ·obtain ⟨z, hz⟩ : ∃ z, z = (s4.2 : Int) := ⟨_, rfl⟩
         have e1 : w5.cell? ⟨_, 1, none⟩ = some (.int .i64 z) := ((HO.at 1 rfl).cell (o := 1) rfl).trans (by rw [hz])
         have q1 : (z == 0) = false := by rw [beq_eq_false_iff_ne]; omega
         have HRe : Hid (R = (f, j + 1, s4)) := Yq (by rw [HR.out]; exact Sy.opt_bad (by rw [Ho1.out, if_neg (by simpa using h0), if_pos (by simpa using h1)]) h1)
         clear HR Ho1 hz
         go_upto_region 19 with fail
         refine wp_ret6 (by kernel_rfl) (by kernel_rfl) rfl (fun _ _ _ _ _ h => h) HO (.int .i64 (j + 1)) 4 1 3 2 rfl rfl rfl rfl (by decide) (by decide) (by decide) rfl (by kernel_rfl) (.inl rfl) (by kernel_rfl) rfl (by kernel_rfl) rfl rfl (by kernel_rfl) (by kernel_rfl) (.inr rfl) (by kernel_rfl) rfl rfl (by kernel_rfl) (by kernel_rfl) Tryz.underlying110 rfl infoF8 rfl (one_fC _) Tryz.underlying100 rfl infoStp rfl (one_stC _) ?_
         intro w9 HO9
         go_wp2_with fail
         rw [HRe.out]
         refine bodyPost_ret (v := .tuple #[.agg (fC f).toArray, .int .i64 (j + 1), .agg (stC s4).toArray]) ?_ rfl ⟨rfl, HO9.below⟩
         exact results_ctc rfl (by kernel_rfl) (by kernel_rfl) (by kernel_rfl) (run_load_blk (HO9.at 3 rfl) _ Tryz.underlying110 rfl infoF8) (run_load_blk (HO9.at 2 rfl) _ Tryz.underlying100 rfl infoStp)
       ·obtain ⟨z, hz⟩ : ∃ z, z = (s.2 : Int) := ⟨_, rfl⟩
        have e1 : w6.cell? ⟨_, 1, none⟩ = some (.int .i64 z) := ((HO.at 0 rfl).cell (o := 1) rfl).trans (by rw [hz])
        have q1 : (z == 0) = false := by rw [beq_eq_false_iff_ne]; omega
        have HRe : Hid (R = (f, j + 1, s)) := Yq (by rw [HR.out]; exact Sy.opt_bad (by rw [Ho1.out, if_pos (by simpa using h0)]) h0)
        clear HR Ho1 hz hle hge h0
        go_upto_region 16 with fail
        refine wp_ret6 (by kernel_rfl) (by kernel_rfl) rfl (fun _ _ _ _ _ h => h) HO (.int .i64 (j + 1)) 3 0 2 1 rfl rfl rfl rfl (by decide) (by decide) (by decide) rfl (by kernel_rfl) (.inl rfl) (by kernel_rfl) rfl (by kernel_rfl) rfl rfl (by kernel_rfl) (by kernel_rfl) (.inr rfl) (by kernel_rfl) rfl rfl (by kernel_rfl) (by kernel_rfl) Tryz.underlying110 rfl infoF8 rfl (one_fC _) Tryz.underlying100 rfl infoStp rfl (one_stC _) ?_
        intro w9 HO9
        go_wp2_with fail
        rw [HRe.out]
        refine bodyPost_ret (v := .tuple #[.agg (fC f).toArray, .int .i64 (j + 1), .agg (stC s).toArray]) ?_ rfl ⟨rfl, HO9.below⟩
        exact results_ctc rfl (by kernel_rfl) (by kernel_rfl) (by kernel_rfl) (run_load_blk (HO9.at 2 rfl) _ Tryz.underlying110 rfl infoF8) (run_load_blk (HO9.at 1 rfl) _ Tryz.underlying100 rfl infoStp)
    ·have hpk : f.packed = 0 := of_decide_eq_true (Bool.and_eq_true_iff.1 hB).2
     have hpw := (Bool.and_eq_true_iff.1 hB).1
     have HW1 := Yq (fun g w0 hb hx => HW.out (j + 1 + 1) [61] g w0 hb hx (by decide) (by omega))
     have hle := Sy.want_le ts [[61]] (j + 1 + 1)
     have hge := Sy.want_ge ts [[61]] (j + 1 + 1)
     simp only [List.length_cons, List.length_nil] at hle
     have Ho1 : Hid (Sy.option1 ts f (j + 1) = if (Sy.want ts (j + 1 + 1) [[61]]).2.2 ≠ 0 then (f, j + 1, (Sy.want ts (j + 1 + 1) [[61]]).2) else if Sy.isAt ts (Sy.want ts (j + 1 + 1) [[61]]).1 1 Sx.bTrue then ({ f with packed := 1 }, (Sy.want ts (j + 1 + 1) [[61]]).1 + 1, Sy.none0) else if Sy.isAt ts (Sy.want ts (j + 1 + 1) [[61]]).1 1 Sx.bFalse then ({ f with packed := 2 }, (Sy.want ts (j + 1 + 1) [[61]]).1 + 1, Sy.none0) else (f, j + 1, Sy.bad (Sy.want ts (j + 1 + 1) [[61]]).1)) := Yq (by unfold Sy.option1; rw [if_pos ⟨hpw, hpk⟩])
     generalize Sy.want ts (j + 1 + 1) [[61]] = A at *
     obtain ⟨n, s⟩ := A
     dsimp only at HW1 hle hge Ho1
     clear hpk hpw
     go_upto_region 5 with (first
      | (refine wpList_str1_own rfl _ rfl HO ?_; clear HO; intro w7 g7 HO)
      | (go_at_call 57; (refine (HW1.out _ _ HO.below (HO.at 0 rfl)).mono ?_); rintro e w8 ⟨rfl, hb⟩; replace HO := (HO.call hb).sub (List.sublist_cons_self _ _); clear hb)
      | (refine wpList_alloc_own rfl 100 rfl zSt zeroStp HO ?_; clear HO; intro w1 g10 HO)
      | (refine wpList_store_own 0 rfl 100 _ _ rfl _ 0 (stC s) rfl rfl HO rfl infoStp (Nat.le_refl _) (one_stC _) rfl ?_; clear HO; intro w6 HO)
      | fail)
     by_cases h0 : s.2 = 0
     ·have e1 : w6.cell? ⟨_, 1, none⟩ = some (.int .i64 0) := ((HO.at 0 rfl).cell (o := 1) rfl).trans (by rw [show ((s.2 : Nat) : Int) = 0 by omega])
      have HI3 := Yq (fun w0 hb => HI.out n 1 Sx.bTrue w0 hb)
      cases ht : Sy.isAt ts n 1 Sx.bTrue
      ·rw [ht] at HI3
       have HI4 := Yq (fun w0 hb => HI.out n 1 Sx.bFalse w0 hb)
       cases hf : Sy.isAt ts n 1 Sx.bFalse
       ·rw [hf] at HI4
        have HRe : Hid (R = (f, j + 1, Sy.bad n)) := Yq (by rw [HR.out]; exact Sy.opt_bad (by rw [Ho1.out, if_neg (by simpa using h0), ht, hf, if_neg (by decide), if_neg (by decide)]) (by simp [Sy.bad]))
        clear HR Ho1 ht hf
        go_upto_region 10 with (go_at_call 59; (refine (HI3.out _ HO.below).mono ?_); rintro e w3 ⟨rfl, rfl⟩)
        go_upto_region 7 with (go_at_call 59; (refine (HI4.out _ HO.below).mono ?_); rintro e w3 ⟨rfl, rfl⟩)
        refine wp_ret7 (by kernel_rfl) (by kernel_rfl) rfl (fun _ _ _ _ _ h => h) HO (.int .i64 (j + 1)) (.int .i64 (n)) 3 2 1 rfl rfl rfl (by decide) (by decide) rfl (by kernel_rfl) (.inl rfl) (by kernel_rfl) (.inl rfl) (by kernel_rfl) rfl (fun _ => by kernel_rfl) (bad_any n) rfl rfl (by kernel_rfl) (by kernel_rfl) (.inr rfl) (by kernel_rfl) rfl rfl (by kernel_rfl) (by kernel_rfl) Tryz.underlying110 rfl infoF8 rfl (one_fC _) infoStp rfl (one_stC _) ?_
        intro w9 HO9
        go_wp2_with fail
        rw [HRe.out]
        refine bodyPost_ret (v := .tuple #[.agg (fC f).toArray, .int .i64 (j + 1), .agg (stC (Sy.bad n)).toArray]) ?_ rfl ⟨rfl, HO9.below⟩
        exact results_ctc rfl (by kernel_rfl) (by kernel_rfl) (by kernel_rfl) (run_load_blk (HO9.at 2 rfl) _ Tryz.underlying110 rfl infoF8) (run_load_blk (HO9.at 1 rfl) _ Tryz.underlying100 rfl infoStp)
       ·rw [hf] at HI4
        have HR1 : Hid (R = Sy.optEnd ts (Sy.optMid ts fu { f with packed := 2 } (n + 1))) := Yq (by rw [HR.out]; exact Sy.opt_ok (by rw [Ho1.out, if_neg (by simpa using h0), ht, hf, if_neg (by decide), if_pos rfl]) rfl)
        clear HR Ho1 ht hf
        go_upto_region 10 with (go_at_call 59; (refine (HI3.out _ HO.below).mono ?_); rintro e w3 ⟨rfl, rfl⟩)
        go_wp2_with (first
       | (go_at_call 59; (refine (HI4.out _ HO.below).mono ?_); rintro e w3 ⟨rfl, rfl⟩)
       | (refine wpList_store_own1 (ds := fC { f with packed := 2 }) 3 rfl 3 _ _ rfl _ 6 (.int .i64 2) rfl rfl HO rfl infoI1 ?_ rfl rfl ?_; (· show 6 + 1 ≤ 10; decide); (clear HO; intro w9 HO))
       | fail)
        go_meet
        exact ⟨{ f with packed := 2 }, n + 1, by go_num, Yq (HO.sub (.cons _ (List.Sublist.refl _))), HR1, by omega, by omega⟩
      ·rw [ht] at HI3
       have HR1 : Hid (R = Sy.optEnd ts (Sy.optMid ts fu { f with packed := 1 } (n + 1))) := Yq (by rw [HR.out]; exact Sy.opt_ok (by rw [Ho1.out, if_neg (by simpa using h0), ht, if_pos rfl]) rfl)
       clear HR Ho1 ht
       go_wp2_with (first
       | (go_at_call 59; (refine (HI3.out _ HO.below).mono ?_); rintro e w3 ⟨rfl, rfl⟩)
       | (refine wpList_store_own1 (ds := fC { f with packed := 1 }) 3 rfl 3 _ _ rfl _ 6 (.int .i64 1) rfl rfl HO rfl infoI1 ?_ rfl rfl ?_; (· show 6 + 1 ≤ 10; decide); (clear HO; intro w9 HO))
       | fail)
       go_meet
       exact ⟨{ f with packed := 1 }, n + 1, by go_num, Yq (HO.sub (.cons _ (List.Sublist.refl _))), HR1, by omega, by omega⟩
     ·obtain ⟨z, hz⟩ : ∃ z, z = (s.2 : Int) := ⟨_, rfl⟩
      have e1 : w6.cell? ⟨_, 1, none⟩ = some (.int .i64 z) := ((HO.at 0 rfl).cell (o := 1) rfl).trans (by rw [hz])
      have q1 : (z == 0) = false := by rw [beq_eq_false_iff_ne]; omega
      have HRe : Hid (R = (f, j + 1, s)) := Yq (by rw [HR.out]; exact Sy.opt_bad (by rw [Ho1.out, if_pos (by simpa using h0)]) h0)
      clear HR Ho1 hz hle hge h0
      go_upto_region 6 with fail
      refine wp_ret6 (by kernel_rfl) (by kernel_rfl) rfl (fun _ _ _ _ _ h => h) HO (.int .i64 (j + 1)) 3 0 2 1 rfl rfl rfl rfl (by decide) (by decide) (by decide) rfl (by kernel_rfl) (.inl rfl) (by kernel_rfl) rfl (by kernel_rfl) rfl rfl (by kernel_rfl) (by kernel_rfl) (.inr rfl) (by kernel_rfl) rfl rfl (by kernel_rfl) (by kernel_rfl) Tryz.underlying110 rfl infoF8 rfl (one_fC _) Tryz.underlying100 rfl infoStp rfl (one_stC _) ?_
      intro w9 HO9
      go_wp2_with fail
      rw [HRe.out]
      refine bodyPost_ret (v := .tuple #[.agg (fC f).toArray, .int .i64 (j + 1), .agg (stC s).toArray]) ?_ rfl ⟨rfl, HO9.below⟩
      exact results_ctc rfl (by kernel_rfl) (by kernel_rfl) (by kernel_rfl) (run_load_blk (HO9.at 2 rfl) _ Tryz.underlying110 rfl infoF8) (run_load_blk (HO9.at 1 rfl) _ Tryz.underlying100 rfl infoStp)
   case rest =>
    obtain ⟨f', p, rfl, HO9, HR1, hpj, hpk⟩ := hcut
    have HO := HO9.out
    clear HO9 HR
    replace HO := HO.sub (List.Sublist.refl _)
    have HI2 := Yq (fun w0 hb => HI.out (p) 4 [44] w0 hb)
    cases hc : Sy.isAt ts (p) 4 [44]
    ·rw [hc] at HI2
     have HR2 : Hid (R = Sy.optEnd ts (f', (Sy.want ts (p) [[93]]).1, (Sy.want ts (p) [[93]]).2)) := Yq (by rw [HR1.out, Sy.optMid, hc, if_neg (by decide)])
     have HW2 := Yq (fun g w0 hb hx => HW.out (p) [93] g w0 hb hx (by decide) (by omega))
     have hbd := Sy.want1_bad ts (p) [93]
     have hle := Sy.want_le ts [[93]] (p)
     generalize Sy.want ts (p) [[93]] = C at *
     obtain ⟨q, s3⟩ := C
     dsimp only at HW2 HR2 hbd hle
     simp only [List.length_cons, List.length_nil] at hle
     clear HR1 hc
     go_upto_region 25 with (first
     | (go_at_call 59; (refine (HI2.out _ HO.below).mono ?_); rintro e w3 ⟨rfl, rfl⟩)
     | (refine wpList_str1_own rfl _ rfl HO ?_; clear HO; intro w7 g7 HO)
     | (go_at_call 57; (refine (HW2.out _ _ HO.below (HO.at 0 rfl)).mono ?_); rintro e w8 ⟨rfl, hb⟩; replace HO := (HO.call hb).sub (List.sublist_cons_self _ _); clear hb)
     | (refine wpList_alloc_own rfl 100 rfl zSt zeroStp HO ?_; clear HO; intro w1 g15 HO)
     | (refine wpList_store_own 0 rfl 100 _ _ rfl _ 0 (stC s3) rfl rfl HO rfl infoStp (Nat.le_refl _) (one_stC _) rfl ?_; clear HO; intro w6 HO)
     | fail)
     by_cases h0 : s3.2 = 0
     ·have e1 : w6.cell? ⟨_, 1, none⟩ = some (.int .i64 0) := ((HO.at 0 rfl).cell (o := 1) rfl).trans (by rw [show ((s3.2 : Nat) : Int) = 0 by omega])
      have HRe : Hid (R = (f', (Sy.want ts q [[59]]).1, (Sy.want ts q [[59]]).2)) := Yq (by rw [HR2.out, Sy.optEnd_ok h0])
      clear HR2 hbd
      have HW1 := Yq (fun g w0 hb hx => HW.out (q) [59] g w0 hb hx (by decide) (by omega))
      generalize Sy.want ts q [[59]] = B at *
      obtain ⟨k, s2⟩ := B
      dsimp only at HW1 HRe
      go_upto_region 29 with (first
       | (refine wpList_str1_own rfl _ rfl HO ?_; clear HO; intro w7 g7 HO)
       | (go_at_call 57; (refine (HW1.out _ _ HO.below (HO.at 0 rfl)).mono ?_); rintro e w8 ⟨rfl, hb⟩; replace HO := (HO.call hb).sub (List.sublist_cons_self _ _); clear hb)
       | (refine wpList_alloc_own rfl 100 rfl zSt zeroStp HO ?_; clear HO; intro w1 g16 HO)
       | (refine wpList_store_own 0 rfl 100 _ _ rfl _ 0 (stC s2) rfl rfl HO rfl infoStp (Nat.le_refl _) (one_stC _) rfl ?_; clear HO; intro w6 HO)
       | fail)
      refine wp_ret6 (by kernel_rfl) (by kernel_rfl) rfl (fun _ _ _ _ _ h => h) HO (.int .i64 (k)) 4 0 3 2 rfl rfl rfl rfl (by decide) (by decide) (by decide) rfl (by kernel_rfl) (.inl rfl) (by kernel_rfl) rfl (by kernel_rfl) rfl rfl (by kernel_rfl) (by kernel_rfl) (.inr rfl) (by kernel_rfl) rfl rfl (by kernel_rfl) (by kernel_rfl) Tryz.underlying110 rfl infoF8 rfl (one_fC _) Tryz.underlying100 rfl infoStp rfl (one_stC _) ?_
      intro w9 HO9
      go_wp2_with fail
      rw [HRe.out]
      refine bodyPost_ret (v := .tuple #[.agg (fC f').toArray, .int .i64 (k), .agg (stC s2).toArray]) ?_ rfl ⟨rfl, HO9.below⟩
      exact results_ctc rfl (by kernel_rfl) (by kernel_rfl) (by kernel_rfl) (run_load_blk (HO9.at 3 rfl) _ Tryz.underlying110 rfl infoF8) (run_load_blk (HO9.at 2 rfl) _ Tryz.underlying100 rfl infoStp)
     ·obtain ⟨z, hz⟩ : ∃ z, z = (s3.2 : Int) := ⟨_, rfl⟩
      have e1 : w6.cell? ⟨_, 1, none⟩ = some (.int .i64 z) := ((HO.at 0 rfl).cell (o := 1) rfl).trans (by rw [hz])
      have q1 : (z == 0) = false := by rw [beq_eq_false_iff_ne]; omega
      have HRe : Hid (R = (f', p, s3)) := Yq (by rw [HR2.out, Sy.optEnd_bad (by exact h0), hbd h0])
      clear HR2 hbd hle hz h0
      go_upto_region 26 with fail
      refine wp_ret6 (by kernel_rfl) (by kernel_rfl) rfl (fun _ _ _ _ _ h => h) HO (.int .i64 (p)) 3 0 2 1 rfl rfl rfl rfl (by decide) (by decide) (by decide) rfl (by kernel_rfl) (.inl rfl) (by kernel_rfl) rfl (by kernel_rfl) rfl rfl (by kernel_rfl) (by kernel_rfl) (.inr rfl) (by kernel_rfl) rfl rfl (by kernel_rfl) (by kernel_rfl) Tryz.underlying110 rfl infoF8 rfl (one_fC _) Tryz.underlying100 rfl infoStp rfl (one_stC _) ?_
      intro w9 HO9
      go_wp2_with fail
      rw [HRe.out]
      refine bodyPost_ret (v := .tuple #[.agg (fC f').toArray, .int .i64 (p), .agg (stC s3).toArray]) ?_ rfl ⟨rfl, HO9.below⟩
      exact results_ctc rfl (by kernel_rfl) (by kernel_rfl) (by kernel_rfl) (run_load_blk (HO9.at 2 rfl) _ Tryz.underlying110 rfl infoF8) (run_load_blk (HO9.at 1 rfl) _ Tryz.underlying100 rfl infoStp)
    ·rw [hc] at HI2
     have hlt := Sy.isAt_lt ts hc
     rw [HM.out] at hlt
     have hm5 := Hfew.out
     have HR2 : Hid (R = Sy.optEnd ts (Sy.optionsL ts fu f' (p))) := Yq (by rw [HR1.out, Sy.optMid, hc, if_pos rfl])
     have HO2 := Yq HO
     clear HR1 hc HO
     go_wp2_with (go_at_call 59; (refine (HI2.out _ HO2.out.below).mono ?_); rintro e w3 ⟨rfl, rfl⟩)
     go_roundg fu
     case measure => omega
     case rel => exact ⟨f', p, by go_num, HO2, HR2, by omega, by omega, by omega⟩
theorem roptions_any (v : Value) (ts : List Lx.Tok) (hS : Small ts) (f : Sx.Fld) (i : Nat) (w : World) (h : FlatV tC (frag w) v ts) (hi : i ≤ 950000) :
  Calls Tryz.prog 111 #[v, .agg (fC f).toArray, .int .i64 i] w (R3 w (fC (Sy.options ts f i).1) (Sy.options ts f i).2.1 (Sy.options ts f i).2.2) := by
 cases hb : Sy.isAt ts i 4 [91]
 ·exact roptions_no v ts hS f i w h hi hb
 ·exact roptions_yes v ts hS f i w h hi hb
end Go.Proofs.YtpcfdngnmigkfaaGreatDoor
