/- The reference redlineref08, walked: reserved, numbers. -/
import Derived.Test.YtpcfdngnmigkfaaGreatDoorRyRes
import Derived.Deep.CutRange
set_option linter.unusedVariables false
set_option linter.unusedSimpArgs false
namespace Go.Proofs.YtpcfdngnmigkfaaGreatDoor
open Go.RowKit
namespace Sy
open Lx (Bs Tok)
open Sx
theorem number_bad {ts : List Tok} {i : Nat} (h : (number ts i).2.2.2 ≠ 0) : (number ts i).2.1 = i := by
 unfold number at h ⊢; split
 ·rename_i c; rw [if_pos c] at h; exact absurd rfl h
 ·rfl
theorem rangesL_ok {ts : List Tok} {n : Nat} {l : List Rng} {i p : Nat} {r : Rng} (e : rangeR ts i = (r, p, none0)) : rangesL ts (n + 1) l i = if isAt ts p 4 [44] then rangesL ts n (l ++ [r]) (p + 1) else (l ++ [r], want ts p [[59]]) := by
 rw [rangesL, e, if_neg (by simp [none0])]
theorem rangesL_bad {ts : List Tok} {n : Nat} {l : List Rng} {i q : Nat} {r : Rng} {s : Stop} (e : rangeR ts i = (r, q, s)) (h : ¬ s.2 = 0) : rangesL ts (n + 1) l i = (l, q, s) := by
 rw [rangesL, e, if_pos h]
end Sy
theorem rng_build8 (a b : Int) (w : World) : (Instr.build 112 #[(0, .int .i64 a), (1, .int .i64 b)]).run Tryz.prog w = .ok (.agg #[.int .i64 a, .int .i64 b]) w := by kernel_rfl
set_option maxHeartbeats 16000000 in
set_option maxRecDepth 100000 in
theorem rres_nums (v : Value) (ts : List Lx.Tok) (hS : Small ts) (i : Nat) (w : World) (h : FlatV tC (frag w) v ts) (hi : i ≤ 800000) (hb : Sy.isAt ts i 3 [] = false) :
  Calls Tryz.prog 84 #[v, .int .i64 i] w (RRes w (Sy.reservedR ts i)) := by
 obtain ⟨ad, cap, rfl, _, hcm, _⟩ := h.len
 obtain ⟨R, hR⟩ : ∃ R, R = Sy.reservedR ts i := ⟨_, rfl⟩
 rw [← hR]
 unfold Sy.reservedR at hR
 have HTk := Yq h
 have HI := Yq (fun j k t w0 (hb : Below w.heap.size w w0) => is_any (.slice ad ts.length cap) ts j k t w0 (h.mono (below_le hb)))
 have HNu := Yq (fun j w0 (hb : Below w.heap.size w w0) (hj : j ≤ 1000000) => rnumb_any (.slice ad ts.length cap) ts j w0 (h.mono (below_le hb)) hj)
 have HW := Yq (fun j t g w0 (hb : Below w.heap.size w w0) hx hne hj => want1_any (.slice ad ts.length cap) ts j t g w0 (h.mono (below_le hb)) hx hne hj)
 unfold RV3 at HNu
 unfold R2 at HW
 have Hfew := Yq hS.few
 have HSm := Yq hS
 obtain ⟨m, hm0⟩ : ∃ m, m = ts.length := ⟨_, rfl⟩
 have HM := Yq hm0.symm
 rw [← hm0] at HI HNu HW HTk Hfew hR ⊢
 have HO := Own.nil w
 have HR : Hid (R = (((Sy.rangesL ts (m + 2) [] i).1, []), (Sy.rangesL ts (m + 2) [] i).2)) := Yq (by rw [hR, if_neg (by rw [hb]; decide)])
 clear hm0 hR h hS
 go_enter Tryz.func84, Tryz.ntmps84
 go_upto_region 1 with (first
  | (refine wpList_alloc_own rfl 100 rfl zSt zeroStp HO ?_; clear HO; intro w1 g2 HO)
  | fail)
 go_upto_region 2 with fail
 have HO1 : OwnR w [(g2, zSt)] [rowOf 9 1 sC (.slice (some ⟨w1.heap.size + 1, 0, none⟩) 0 0) [], rowOf 112 2 rC (.slice (some ⟨w1.heap.size, 0, none⟩) 0 0) []] (fun _ => True) ((w1.alloc (.cells #[] 112)).alloc (.cells #[] 9)) := by
  have h1 := ((OwnR.start HO [] (fun r hr => by cases hr)).lit 112 2).lit 9 1
  have e : (w1.alloc (.cells #[] 112)).heap.size = w1.heap.size + 1 := by simp
  rw [e] at h1
  exact h1
 clear HO
 go_cut [10] from 19 to 30 (fun s10 wx => s10 = .bool false ∧ wx = ((w1.alloc (.cells #[] 112)).alloc (.cells #[] 9)))
 case first =>
  by_cases hlt : i < ts.length
  ·have hjm : decide ((i : Int) < (m : Int)) = true := decide_eq_true (by rw [HM.out] at hlt; omega)
   have hjm2 : (i : Int) < (m : Int) := by rw [HM.out] at hlt; omega
   have hk := Sy.isAt_kind (k := 3) hlt
   rw [hb] at hk
   have qk : ((ts[i].kind : Int) == 3) = false := by
    have := of_decide_eq_false hk.symm
    rw [beq_eq_false_iff_ne]; omega
   obtain ⟨b0, o0, hbl0, hidx0, hcell0⟩ := FlatV.at (n := m) (cap := cap) (a := ad) (HTk.out.mono (below_le HO1.below)) tC_len (by decide) (i := i) hlt Tryz.underlying102 sizeRTks
   have d0 : ((w1.alloc (.cells #[] 112)).alloc (.cells #[] 9)).cell? ⟨b0, o0, none⟩ = some (.int .i64 ts[i].kind) := by have := hcell0 0 _ rfl; rw [Nat.add_zero] at this; exact this
   generalize ts[i] = x at *
   clear hcell0 hk
   go_wp2_with fail
   go_meet
   exact ⟨rfl, rfl⟩
  ·have hjm : decide ((i : Int) < (m : Int)) = false := decide_eq_false (by rw [HM.out] at hlt; omega)
   have hjm2 : ¬ (i : Int) < (m : Int) := by rw [HM.out] at hlt; omega
   go_wp2_with fail
   go_meet
   exact ⟨rfl, rfl⟩
 case rest =>
  obtain ⟨h10, hwc⟩ := hcut
  subst h10
  rw [← hwc] at HO1
  have HO2 := Yq HO1
  clear HO1 hwc hb
  go_wp2_with fail
  go_loopg [1, 8, 9] (m + 2) (fun fu av v8 v9 wr => ∃ (l : List Sx.Rng) (j : Nat) (u8 u9 : Value), av = .int .i64 j ∧ u8 = v8 ∧ u9 = v9 ∧ Hid (OwnR w [(g2, zSt)] [rowOf 9 1 sC u9 [], rowOf 112 2 rC u8 l] (fun _ => True) wr) ∧ Hid (R = (((Sy.rangesL ts fu l j).1, []), (Sy.rangesL ts fu l j).2)) ∧ 1 ≤ fu ∧ m + 2 ≤ fu + j ∧ j ≤ 850000 ∧ l.length + fu ≤ m + 2)
  case atStart => exact ⟨[], i, _, _, rfl, rfl, rfl, HO2, HR, by omega, by omega, by omega, by simp⟩
  case round =>
   clear HO2 HR
   obtain ⟨l, j, u8, u9, rfl, rfl, rfl, HO, HR, hf1, hf2, hj, hlf⟩ := hrel
   replace HO := HO.out
   obtain ⟨fu, rfl⟩ : ∃ n, gk = n + 1 := ⟨gk - 1, by omega⟩
   have hm5 := Hfew.out
   have HN1 := Yq (fun w0 hb => HNu.out j w0 hb (by omega))
   have hle := Sy.number_le ts j
   have hge : j ≤ (Sy.number ts j).2.1 := by unfold Sy.number; split <;> simp
   have hbq := @Sy.number_bad ts j
   obtain ⟨V0, hV0⟩ : ∃ V0, V0 = Sy.rangeR ts j := ⟨_, rfl⟩
   have hV1 := hV0.symm
   unfold Sy.rangeR at hV0
   generalize Sy.number ts j = A at *
   obtain ⟨n, q, s1⟩ := A
   dsimp only at HN1 hle hge hbq hV0
   have HV : Hid (Sy.rangeR ts j = _) := Yq (hV1.trans hV0)
   clear hV0 hV1
   have hbr := rng_build8
   go_upto_region 9 with (first
    | (go_at_call 88; (refine (HN1.out _ HO.below).mono ?_); rintro e w3 ⟨rfl, hb⟩; replace HO := HO.call hb; clear hb)
    | (refine wpList_alloc_ownR rfl 100 rfl zSt zeroStp HO ?_; clear HO; intro w1 g13 HO)
    | (refine wpList_store_ownR 0 rfl 100 _ _ rfl _ 0 (stC s1) rfl rfl HO rfl infoStp (Nat.le_refl _) (one_stC _) rfl ?_; clear HO; intro w6 HO)
    | fail)
   by_cases h0 : s1.2 = 0
   ·have e1 : w6.cell? ⟨_, 1, none⟩ = some (.int .i64 0) := ((HO.own.at 0 rfl).cell (o := 1) rfl).trans (by rw [show ((s1.2 : Nat) : Int) = 0 by omega])
    have HV2 := Yq (HV.out.trans (if_neg (by simpa using h0)))
    clear HV
    have HI3 := Yq (fun w0 hb => HI.out q 1 Sx.bTo w0 hb)
    cases ht : Sy.isAt ts q 1 Sx.bTo
    ·rw [ht] at HI3
     have HRg : Hid (Sy.rangeR ts j = (⟨n, n⟩, q, Sy.none0)) := Yq (by rw [HV2.out, ht, if_neg (by decide)])
     clear HV2 ht
     go_upto_region 22 with (first
     | (refine wpList_alloc_ownR rfl 112 rfl zRg zeroRR HO ?_; clear HO; intro w1 g14 HO)
     | (refine wpList_store_ownR 0 rfl 112 _ _ rfl _ 0 (rC ⟨n, n⟩) rfl rfl HO rfl infoRR (Nat.le_refl _) (one_rC _) rfl ?_; clear HO; intro w8 HO)
     | (go_at_call 59; (refine (HI3.out _ HO.below).mono ?_); rintro e w3 ⟨rfl, rfl⟩)
     | fail)
     have HRy : Hid (R = (((if Sy.isAt ts (q) 4 [44] then Sy.rangesL ts fu (l ++ [(⟨n, n⟩ : Sx.Rng)]) (q + 1) else (l ++ [(⟨n, n⟩ : Sx.Rng)], Sy.want ts (q) [[59]])).1, []), (if Sy.isAt ts (q) 4 [44] then Sy.rangesL ts fu (l ++ [(⟨n, n⟩ : Sx.Rng)]) (q + 1) else (l ++ [(⟨n, n⟩ : Sx.Rng)], Sy.want ts (q) [[59]])).2)) := Yq (by rw [HR.out, Sy.rangesL_ok HRg.out])
     clear HR HRg
     have hn5 : (l.length + 1) * 16 ≤ 140737488355328 := by omega
     have HI9 := Yq (fun w0 hb => HI.out (q) 4 [44] w0 hb)
     have hvl := (HO.own.at 0 rfl).whole
     go_upto_region 23 with (first
      | (refine wpList_load_seg rfl 112 _ rfl _ _ rfl _ _ hvl Tryz.underlying112 rfl infoRR ?_)
      | (refine wpList_buildSlice1 rfl 61 112 _ rfl (rC (⟨n, n⟩ : Sx.Rng)) (.agg (rC (⟨n, n⟩ : Sx.Rng)).toArray) rfl Tryz.underlying61 info2RR (show 0 < 2 by decide) (show 2 ≤ 1000 by decide) rfl ?_)
      | (at_builtin; refine wpList_append_ownR (L := [rowOf 9 1 sC u9 []]) (M := []) T_RR rfl _ _ rfl (rC (⟨n, n⟩ : Sx.Rng)) HO rfl rfl rfl (one_rC _) hn5 ?_; (intro u7 w9 HO9 hone9; clear hvl)))
     have HOn : OwnR w [(g2, zSt)] [rowOf 9 1 sC u9 [], rowOf 112 2 rC u7 (l ++ [(⟨n, n⟩ : Sx.Rng)])] (fun _ => True) w9 := by
      rw [rowOf_snoc]
      exact HO9.sub (.cons _ (.cons _ (List.Sublist.refl _)))
     clear HO9 HO
     have HO := HOn
     clear HOn
     cases hd : Sy.isAt ts (q) 4 [44]
     ·rw [hd] at HI9
      have HW2 := Yq (fun g w0 hb hx => HW.out (q) [59] g w0 hb hx (by decide) (by omega))
      have HRz : Hid (R = ((l ++ [(⟨n, n⟩ : Sx.Rng)], []), Sy.want ts (q) [[59]])) := Yq (by rw [HRy.out, hd, if_neg (by decide)])
      clear HRy hd
      generalize Sy.want ts (q) [[59]] = B at *
      obtain ⟨q9, s9⟩ := B
      dsimp only at HW2
      have HRe : Hid (R.2 = (q9, s9)) := Yq (by rw [HRz.out])
      go_upto_region 25 with (first
      | (go_at_call 59; (refine (HI9.out _ HO.below).mono ?_); rintro e w3 ⟨rfl, rfl⟩)
      | (refine wpList_str1_ownR rfl _ rfl HO ?_; clear HO; intro w7 g7 HO)
      | (go_at_call 57; (refine (HW2.out _ _ HO.below (HO.own.at 0 rfl)).mono ?_); rintro e w8 ⟨rfl, hb⟩; replace HO := (HO.call hb).sub (List.sublist_cons_self _ _); clear hb)
      | (refine wpList_alloc_ownR rfl 100 rfl zSt zeroStp HO ?_; clear HO; intro w1 g16 HO)
      | (refine wpList_store_ownR 0 rfl 100 _ _ rfl _ 0 (stC s9) rfl rfl HO rfl infoStp (Nat.le_refl _) (one_stC _) rfl ?_; clear HO; intro w6 HO)
      | fail)
      have Hln : Hid ((l ++ [(⟨n, n⟩ : Sx.Rng)]).length ≤ 10000) := Yq (by simp; omega)
      refine wp_ret8n (by kernel_rfl) (by kernel_rfl) rfl (fun _ _ _ _ _ h => h) HO (u7) (u9) (.int .i64 q9) (u7) (u9) (.int .i64 q9) 0 1 rfl rfl (.inl rfl) (by kernel_rfl) (.inl rfl) (by kernel_rfl) (.inl rfl) (by kernel_rfl) rfl (by kernel_rfl) (.inr rfl) (by kernel_rfl) (.inr rfl) (by kernel_rfl) (.inr rfl) (by kernel_rfl) rfl rfl (by kernel_rfl) (by kernel_rfl) Tryz.underlying100 rfl infoStp rfl (one_stC _) ?_
      intro w10 HO10
      go_wp2_with fail
      have hF8 := FlatV.of_ownsU (f := rC) (HO10.rows.own (rowOf 112 2 rC u7 (l ++ [(⟨n, n⟩ : Sx.Rng)])) (by simp)) (Nat.le_refl _)
      have hF9 := FlatV.of_ownsU (f := sC) (HO10.rows.own (rowOf 9 1 sC u9 []) (by simp)) (Nat.le_refl _)
      refine bodyPost_ret (v := .tuple #[u7, u9, .int .i64 R.2.1, .agg (stC R.2.2).toArray]) ?_ rfl ⟨u7, u9, (l ++ [(⟨n, n⟩ : Sx.Rng)]), [], rfl, ⟨hF8, Hln.out⟩, ⟨hF9, by simp⟩, (fun _ => by rw [HRz.out]; exact ⟨rfl, rfl⟩), HO10.own.below⟩
      exact results_tttc rfl (by kernel_rfl) (by kernel_rfl) (by rw [HRe.out]; kernel_rfl) (by kernel_rfl) (by rw [HRe.out]; exact run_load_blk (HO10.own.at 1 rfl) _ Tryz.underlying100 rfl infoStp)
     ·rw [hd] at HI9
      have hltn := Sy.isAt_lt ts hd
      rw [HM.out] at hltn
      have HRn : Hid (R = (((Sy.rangesL ts fu (l ++ [(⟨n, n⟩ : Sx.Rng)]) (q + 1)).1, []), (Sy.rangesL ts fu (l ++ [(⟨n, n⟩ : Sx.Rng)]) (q + 1)).2)) := Yq (by rw [HRy.out, hd, if_pos rfl])
      have HOn := Yq HO
      clear HRy hd HO
      go_wp2_with (go_at_call 59; (refine (HI9.out _ HOn.out.below).mono ?_); rintro e w3 ⟨rfl, rfl⟩)
      go_roundg fu
      case measure => omega
      case rel => exact ⟨l ++ [(⟨n, n⟩ : Sx.Rng)], q + 1, u7, u9, by go_num, rfl, rfl, HOn, HRn, by omega, by omega, by omega, by simp; omega⟩
    ·rw [ht] at HI3
     have hlq := Sy.isAt_lt ts ht
     rw [HM.out] at hlq
     have HV3 := Yq (HV2.out.trans (if_pos ht))
     clear HV2 ht
     have HI4 := Yq (fun w0 hb => HI.out (q + 1) 1 Sx.bMax w0 hb)
     go_upto_region 15 with (first
     | (refine wpList_alloc_ownR rfl 112 rfl zRg zeroRR HO ?_; clear HO; intro w1 g14 HO)
     | (refine wpList_store_ownR 0 rfl 112 _ _ rfl _ 0 (rC ⟨n, n⟩) rfl rfl HO rfl infoRR (Nat.le_refl _) (one_rC _) rfl ?_; clear HO; intro w8 HO)
     | (go_at_call 59; (refine (HI3.out _ HO.below).mono ?_); rintro e w3 ⟨rfl, rfl⟩)
     | fail)
     cases hx : Sy.isAt ts (q + 1) 1 Sx.bMax
     ·rw [hx] at HI4
      have HV4 := Yq (HV3.out.trans (if_neg (by rw [hx]; decide)))
      clear HV3 hx
      have HN2 := Yq (fun w0 hb => HNu.out (q + 1) w0 hb (by omega))
      have hle2 := Sy.number_le ts (q + 1)
      have hge2 : q + 1 ≤ (Sy.number ts (q + 1)).2.1 := by unfold Sy.number; split <;> simp
      have hbq2 := @Sy.number_bad ts (q + 1)
      generalize Sy.number ts (q + 1) = B at *
      obtain ⟨n2, q2, s2⟩ := B
      dsimp only at HN2 hle2 hge2 hbq2 HV4
      go_upto_region 19 with (first
     | (go_at_call 59; (refine (HI4.out _ HO.below).mono ?_); rintro e w3 ⟨rfl, rfl⟩)
     | (go_at_call 88; (refine (HN2.out _ HO.below).mono ?_); rintro e w3 ⟨rfl, hb⟩; replace HO := HO.call hb; clear hb)
     | (refine wpList_store_ownR1 (ds := rC ⟨n, n2⟩) 0 rfl 3 _ _ rfl _ 1 (.int .i64 n2) rfl rfl HO rfl infoI1 ?_ rfl rfl ?_; (· show 1 + 1 ≤ 2; decide); (clear HO; intro w9 HO))
     | (refine wpList_store_ownR 1 rfl 100 _ _ rfl _ 0 (stC s2) rfl rfl HO rfl infoStp (Nat.le_refl _) (one_stC _) rfl ?_; clear HO; intro w8 HO)
     | fail)
      by_cases h0 : s2.2 = 0
      ·have e1 : w8.cell? ⟨_, 1, none⟩ = some (.int .i64 0) := ((HO.own.at 1 rfl).cell (o := 1) rfl).trans (by rw [show ((s2.2 : Nat) : Int) = 0 by omega])
       have HRg : Hid (Sy.rangeR ts j = (⟨n, n2⟩, q2, Sy.none0)) := Yq (HV4.out.trans (if_neg (by simpa using h0)))
       clear HV4
       go_upto_region 22 with fail
       have HRy : Hid (R = (((if Sy.isAt ts (q2) 4 [44] then Sy.rangesL ts fu (l ++ [(⟨n, n2⟩ : Sx.Rng)]) (q2 + 1) else (l ++ [(⟨n, n2⟩ : Sx.Rng)], Sy.want ts (q2) [[59]])).1, []), (if Sy.isAt ts (q2) 4 [44] then Sy.rangesL ts fu (l ++ [(⟨n, n2⟩ : Sx.Rng)]) (q2 + 1) else (l ++ [(⟨n, n2⟩ : Sx.Rng)], Sy.want ts (q2) [[59]])).2)) := Yq (by rw [HR.out, Sy.rangesL_ok HRg.out])
       clear HR HRg
       have hn5 : (l.length + 1) * 16 ≤ 140737488355328 := by omega
       have HI9 := Yq (fun w0 hb => HI.out (q2) 4 [44] w0 hb)
       have hvl := (HO.own.at 0 rfl).whole
       go_upto_region 23 with (first
        | (refine wpList_load_seg rfl 112 _ rfl _ _ rfl _ _ hvl Tryz.underlying112 rfl infoRR ?_)
        | (refine wpList_buildSlice1 rfl 61 112 _ rfl (rC (⟨n, n2⟩ : Sx.Rng)) (.agg (rC (⟨n, n2⟩ : Sx.Rng)).toArray) rfl Tryz.underlying61 info2RR (show 0 < 2 by decide) (show 2 ≤ 1000 by decide) rfl ?_)
        | (at_builtin; refine wpList_append_ownR (L := [rowOf 9 1 sC u9 []]) (M := []) T_RR rfl _ _ rfl (rC (⟨n, n2⟩ : Sx.Rng)) HO rfl rfl rfl (one_rC _) hn5 ?_; (intro u7 w9 HO9 hone9; clear hvl)))
       have HOn : OwnR w [(g2, zSt)] [rowOf 9 1 sC u9 [], rowOf 112 2 rC u7 (l ++ [(⟨n, n2⟩ : Sx.Rng)])] (fun _ => True) w9 := by
        rw [rowOf_snoc]
        exact HO9.sub (.cons _ (.cons _ (List.Sublist.refl _)))
       clear HO9 HO
       have HO := HOn
       clear HOn
       cases hd : Sy.isAt ts (q2) 4 [44]
       ·rw [hd] at HI9
        have HW2 := Yq (fun g w0 hb hx => HW.out (q2) [59] g w0 hb hx (by decide) (by omega))
        have HRz : Hid (R = ((l ++ [(⟨n, n2⟩ : Sx.Rng)], []), Sy.want ts (q2) [[59]])) := Yq (by rw [HRy.out, hd, if_neg (by decide)])
        clear HRy hd
        generalize Sy.want ts (q2) [[59]] = B at *
        obtain ⟨q9, s9⟩ := B
        dsimp only at HW2
        have HRe : Hid (R.2 = (q9, s9)) := Yq (by rw [HRz.out])
        go_upto_region 25 with (first
        | (go_at_call 59; (refine (HI9.out _ HO.below).mono ?_); rintro e w3 ⟨rfl, rfl⟩)
        | (refine wpList_str1_ownR rfl _ rfl HO ?_; clear HO; intro w7 g7 HO)
        | (go_at_call 57; (refine (HW2.out _ _ HO.below (HO.own.at 0 rfl)).mono ?_); rintro e w8 ⟨rfl, hb⟩; replace HO := (HO.call hb).sub (List.sublist_cons_self _ _); clear hb)
        | (refine wpList_alloc_ownR rfl 100 rfl zSt zeroStp HO ?_; clear HO; intro w1 g16 HO)
        | (refine wpList_store_ownR 0 rfl 100 _ _ rfl _ 0 (stC s9) rfl rfl HO rfl infoStp (Nat.le_refl _) (one_stC _) rfl ?_; clear HO; intro w6 HO)
        | fail)
        have Hln : Hid ((l ++ [(⟨n, n2⟩ : Sx.Rng)]).length ≤ 10000) := Yq (by simp; omega)
        refine wp_ret8n (by kernel_rfl) (by kernel_rfl) rfl (fun _ _ _ _ _ h => h) HO (u7) (u9) (.int .i64 q9) (u7) (u9) (.int .i64 q9) 0 1 rfl rfl (.inl rfl) (by kernel_rfl) (.inl rfl) (by kernel_rfl) (.inl rfl) (by kernel_rfl) rfl (by kernel_rfl) (.inr rfl) (by kernel_rfl) (.inr rfl) (by kernel_rfl) (.inr rfl) (by kernel_rfl) rfl rfl (by kernel_rfl) (by kernel_rfl) Tryz.underlying100 rfl infoStp rfl (one_stC _) ?_
        intro w10 HO10
        go_wp2_with fail
        have hF8 := FlatV.of_ownsU (f := rC) (HO10.rows.own (rowOf 112 2 rC u7 (l ++ [(⟨n, n2⟩ : Sx.Rng)])) (by simp)) (Nat.le_refl _)
        have hF9 := FlatV.of_ownsU (f := sC) (HO10.rows.own (rowOf 9 1 sC u9 []) (by simp)) (Nat.le_refl _)
        refine bodyPost_ret (v := .tuple #[u7, u9, .int .i64 R.2.1, .agg (stC R.2.2).toArray]) ?_ rfl ⟨u7, u9, (l ++ [(⟨n, n2⟩ : Sx.Rng)]), [], rfl, ⟨hF8, Hln.out⟩, ⟨hF9, by simp⟩, (fun _ => by rw [HRz.out]; exact ⟨rfl, rfl⟩), HO10.own.below⟩
        exact results_tttc rfl (by kernel_rfl) (by kernel_rfl) (by rw [HRe.out]; kernel_rfl) (by kernel_rfl) (by rw [HRe.out]; exact run_load_blk (HO10.own.at 1 rfl) _ Tryz.underlying100 rfl infoStp)
       ·rw [hd] at HI9
        have hltn := Sy.isAt_lt ts hd
        rw [HM.out] at hltn
        have HRn : Hid (R = (((Sy.rangesL ts fu (l ++ [(⟨n, n2⟩ : Sx.Rng)]) (q2 + 1)).1, []), (Sy.rangesL ts fu (l ++ [(⟨n, n2⟩ : Sx.Rng)]) (q2 + 1)).2)) := Yq (by rw [HRy.out, hd, if_pos rfl])
        have HOn := Yq HO
        clear HRy hd HO
        go_wp2_with (go_at_call 59; (refine (HI9.out _ HOn.out.below).mono ?_); rintro e w3 ⟨rfl, rfl⟩)
        go_roundg fu
        case measure => omega
        case rel => exact ⟨l ++ [(⟨n, n2⟩ : Sx.Rng)], q2 + 1, u7, u9, by go_num, rfl, rfl, HOn, HRn, by omega, by omega, by omega, by simp; omega⟩
      ·obtain ⟨z, hz⟩ : ∃ z, z = (s2.2 : Int) := ⟨_, rfl⟩
       have e1 : w8.cell? ⟨_, 1, none⟩ = some (.int .i64 z) := ((HO.own.at 1 rfl).cell (o := 1) rfl).trans (by rw [hz])
       have q1 : (z == 0) = false := by rw [beq_eq_false_iff_ne]; omega
       obtain rfl : q2 = q + 1 := hbq2 h0
       have HRe : Hid (R.2 = (q + 1, s2)) := Yq (by rw [HR.out, Sy.rangesL_bad (HV4.out.trans (if_pos (by simpa using h0))) h0])
       have hnz : R.2.2.2 ≠ 0 := by rw [HRe.out]; exact h0
       clear HR hz
       go_upto_region 20 with fail
       refine wp_ret6n (by kernel_rfl) (by kernel_rfl) rfl (fun _ _ _ _ _ h => h) HO.own (.int .i64 (q + 1)) (.slice none 0 0) (.slice none 0 0) (.int .i64 (q + 1)) 1 2 rfl rfl (.inl rfl) (by kernel_rfl) rfl (by kernel_rfl) (.inr rfl) (by kernel_rfl) (.inr rfl) (by kernel_rfl) (.inr rfl) (by kernel_rfl) rfl rfl (by kernel_rfl) (by kernel_rfl) Tryz.underlying100 rfl infoStp rfl (one_stC _) ?_
       intro w9 HO9
       go_wp2_with fail
       refine bodyPost_ret (v := .tuple #[.slice none 0 0, .slice none 0 0, .int .i64 R.2.1, .agg (stC R.2.2).toArray]) ?_ rfl ⟨.slice none 0 0, .slice none 0 0, [], [], rfl, nilBr _, nilBs _, (fun e => absurd e hnz), HO9.below⟩
       exact results_tttc rfl (by kernel_rfl) (by kernel_rfl) (by rw [HRe.out]; kernel_rfl) (by kernel_rfl) (by rw [HRe.out]; exact run_load_blk (HO9.at 2 rfl) _ Tryz.underlying100 rfl infoStp)
     ·rw [hx] at HI4
      have HRg : Hid (Sy.rangeR ts j = (⟨n, 536870911⟩, q + 2, Sy.none0)) := Yq (HV3.out.trans (if_pos hx))
      clear HV3 hx
      go_upto_region 22 with (first
     | (go_at_call 59; (refine (HI4.out _ HO.below).mono ?_); rintro e w3 ⟨rfl, rfl⟩)
     | (refine wpList_store_ownR1 (ds := rC ⟨n, 536870911⟩) 0 rfl 3 _ _ rfl _ 1 (.int .i64 536870911) rfl rfl HO rfl infoI1 ?_ rfl rfl ?_; (· show 1 + 1 ≤ 2; decide); (clear HO; intro w9 HO))
     | fail)
      have HRy : Hid (R = (((if Sy.isAt ts (q + 2) 4 [44] then Sy.rangesL ts fu (l ++ [(⟨n, 536870911⟩ : Sx.Rng)]) (q + 2 + 1) else (l ++ [(⟨n, 536870911⟩ : Sx.Rng)], Sy.want ts (q + 2) [[59]])).1, []), (if Sy.isAt ts (q + 2) 4 [44] then Sy.rangesL ts fu (l ++ [(⟨n, 536870911⟩ : Sx.Rng)]) (q + 2 + 1) else (l ++ [(⟨n, 536870911⟩ : Sx.Rng)], Sy.want ts (q + 2) [[59]])).2)) := Yq (by rw [HR.out, Sy.rangesL_ok HRg.out])
      clear HR HRg
      have hn5 : (l.length + 1) * 16 ≤ 140737488355328 := by omega
      have HI9 := Yq (fun w0 hb => HI.out (q + 2) 4 [44] w0 hb)
      have hvl := (HO.own.at 0 rfl).whole
      go_upto_region 23 with (first
       | (refine wpList_load_seg rfl 112 _ rfl _ _ rfl _ _ hvl Tryz.underlying112 rfl infoRR ?_)
       | (refine wpList_buildSlice1 rfl 61 112 _ rfl (rC (⟨n, 536870911⟩ : Sx.Rng)) (.agg (rC (⟨n, 536870911⟩ : Sx.Rng)).toArray) rfl Tryz.underlying61 info2RR (show 0 < 2 by decide) (show 2 ≤ 1000 by decide) rfl ?_)
       | (at_builtin; refine wpList_append_ownR (L := [rowOf 9 1 sC u9 []]) (M := []) T_RR rfl _ _ rfl (rC (⟨n, 536870911⟩ : Sx.Rng)) HO rfl rfl rfl (one_rC _) hn5 ?_; (intro u7 w9 HO9 hone9; clear hvl)))
      have HOn : OwnR w [(g2, zSt)] [rowOf 9 1 sC u9 [], rowOf 112 2 rC u7 (l ++ [(⟨n, 536870911⟩ : Sx.Rng)])] (fun _ => True) w9 := by
       rw [rowOf_snoc]
       exact HO9.sub (.cons _ (.cons _ (List.Sublist.refl _)))
      clear HO9 HO
      have HO := HOn
      clear HOn
      cases hd : Sy.isAt ts (q + 2) 4 [44]
      ·rw [hd] at HI9
       have HW2 := Yq (fun g w0 hb hx => HW.out (q + 2) [59] g w0 hb hx (by decide) (by omega))
       have HRz : Hid (R = ((l ++ [(⟨n, 536870911⟩ : Sx.Rng)], []), Sy.want ts (q + 2) [[59]])) := Yq (by rw [HRy.out, hd, if_neg (by decide)])
       clear HRy hd
       generalize Sy.want ts (q + 2) [[59]] = B at *
       obtain ⟨q9, s9⟩ := B
       dsimp only at HW2
       have HRe : Hid (R.2 = (q9, s9)) := Yq (by rw [HRz.out])
       go_upto_region 25 with (first
       | (go_at_call 59; (refine (HI9.out _ HO.below).mono ?_); rintro e w3 ⟨rfl, rfl⟩)
       | (refine wpList_str1_ownR rfl _ rfl HO ?_; clear HO; intro w7 g7 HO)
       | (go_at_call 57; (refine (HW2.out _ _ HO.below (HO.own.at 0 rfl)).mono ?_); rintro e w8 ⟨rfl, hb⟩; replace HO := (HO.call hb).sub (List.sublist_cons_self _ _); clear hb)
       | (refine wpList_alloc_ownR rfl 100 rfl zSt zeroStp HO ?_; clear HO; intro w1 g16 HO)
       | (refine wpList_store_ownR 0 rfl 100 _ _ rfl _ 0 (stC s9) rfl rfl HO rfl infoStp (Nat.le_refl _) (one_stC _) rfl ?_; clear HO; intro w6 HO)
       | fail)
       have Hln : Hid ((l ++ [(⟨n, 536870911⟩ : Sx.Rng)]).length ≤ 10000) := Yq (by simp; omega)
       refine wp_ret8n (by kernel_rfl) (by kernel_rfl) rfl (fun _ _ _ _ _ h => h) HO (u7) (u9) (.int .i64 q9) (u7) (u9) (.int .i64 q9) 0 1 rfl rfl (.inl rfl) (by kernel_rfl) (.inl rfl) (by kernel_rfl) (.inl rfl) (by kernel_rfl) rfl (by kernel_rfl) (.inr rfl) (by kernel_rfl) (.inr rfl) (by kernel_rfl) (.inr rfl) (by kernel_rfl) rfl rfl (by kernel_rfl) (by kernel_rfl) Tryz.underlying100 rfl infoStp rfl (one_stC _) ?_
       intro w10 HO10
       go_wp2_with fail
       have hF8 := FlatV.of_ownsU (f := rC) (HO10.rows.own (rowOf 112 2 rC u7 (l ++ [(⟨n, 536870911⟩ : Sx.Rng)])) (by simp)) (Nat.le_refl _)
       have hF9 := FlatV.of_ownsU (f := sC) (HO10.rows.own (rowOf 9 1 sC u9 []) (by simp)) (Nat.le_refl _)
       refine bodyPost_ret (v := .tuple #[u7, u9, .int .i64 R.2.1, .agg (stC R.2.2).toArray]) ?_ rfl ⟨u7, u9, (l ++ [(⟨n, 536870911⟩ : Sx.Rng)]), [], rfl, ⟨hF8, Hln.out⟩, ⟨hF9, by simp⟩, (fun _ => by rw [HRz.out]; exact ⟨rfl, rfl⟩), HO10.own.below⟩
       exact results_tttc rfl (by kernel_rfl) (by kernel_rfl) (by rw [HRe.out]; kernel_rfl) (by kernel_rfl) (by rw [HRe.out]; exact run_load_blk (HO10.own.at 1 rfl) _ Tryz.underlying100 rfl infoStp)
      ·rw [hd] at HI9
       have hltn := Sy.isAt_lt ts hd
       rw [HM.out] at hltn
       have HRn : Hid (R = (((Sy.rangesL ts fu (l ++ [(⟨n, 536870911⟩ : Sx.Rng)]) (q + 2 + 1)).1, []), (Sy.rangesL ts fu (l ++ [(⟨n, 536870911⟩ : Sx.Rng)]) (q + 2 + 1)).2)) := Yq (by rw [HRy.out, hd, if_pos rfl])
       have HOn := Yq HO
       clear HRy hd HO
       go_wp2_with (go_at_call 59; (refine (HI9.out _ HOn.out.below).mono ?_); rintro e w3 ⟨rfl, rfl⟩)
       go_roundg fu
       case measure => omega
       case rel => exact ⟨l ++ [(⟨n, 536870911⟩ : Sx.Rng)], q + 2 + 1, u7, u9, by go_num, rfl, rfl, HOn, HRn, by omega, by omega, by omega, by simp; omega⟩
   ·obtain ⟨z, hz⟩ : ∃ z, z = (s1.2 : Int) := ⟨_, rfl⟩
    have e1 : w6.cell? ⟨_, 1, none⟩ = some (.int .i64 z) := ((HO.own.at 0 rfl).cell (o := 1) rfl).trans (by rw [hz])
    have q1 : (z == 0) = false := by rw [beq_eq_false_iff_ne]; omega
    obtain rfl : q = j := hbq h0
    have HRe : Hid (R.2 = (q, s1)) := Yq (by rw [HR.out, Sy.rangesL_bad (HV.out.trans (if_pos (by simpa using h0))) h0])
    have hnz : R.2.2.2 ≠ 0 := by rw [HRe.out]; exact h0
    clear HR hz
    go_upto_region 10 with fail
    refine wp_ret6n (by kernel_rfl) (by kernel_rfl) rfl (fun _ _ _ _ _ h => h) HO.own (.int .i64 (q)) (.slice none 0 0) (.slice none 0 0) (.int .i64 (q)) 0 1 rfl rfl (.inl rfl) (by kernel_rfl) rfl (by kernel_rfl) (.inr rfl) (by kernel_rfl) (.inr rfl) (by kernel_rfl) (.inr rfl) (by kernel_rfl) rfl rfl (by kernel_rfl) (by kernel_rfl) Tryz.underlying100 rfl infoStp rfl (one_stC _) ?_
    intro w9 HO9
    go_wp2_with fail
    refine bodyPost_ret (v := .tuple #[.slice none 0 0, .slice none 0 0, .int .i64 R.2.1, .agg (stC R.2.2).toArray]) ?_ rfl ⟨.slice none 0 0, .slice none 0 0, [], [], rfl, nilBr _, nilBs _, (fun e => absurd e hnz), HO9.below⟩
    exact results_tttc rfl (by kernel_rfl) (by kernel_rfl) (by rw [HRe.out]; kernel_rfl) (by kernel_rfl) (by rw [HRe.out]; exact run_load_blk (HO9.at 1 rfl) _ Tryz.underlying100 rfl infoStp)
theorem rreserved_any (v : Value) (ts : List Lx.Tok) (hS : Small ts) (i : Nat) (w : World) (h : FlatV tC (frag w) v ts) (hi : i ≤ 800000) :
  Calls Tryz.prog 84 #[v, .int .i64 i] w (RRes w (Sy.reservedR ts i)) := by
 cases hb : Sy.isAt ts i 3 [] with
 | true => exact rres_texts v ts hS i w h hi hb
 | false => exact rres_nums v ts hS i w h hi hb
end Go.Proofs.YtpcfdngnmigkfaaGreatDoor
