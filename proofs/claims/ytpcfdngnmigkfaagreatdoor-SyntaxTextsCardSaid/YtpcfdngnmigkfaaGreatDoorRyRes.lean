/- The reference redlineref08, walked: reserved, texts. -/
import Derived.Test.YtpcfdngnmigkfaaGreatDoorRyOne
set_option linter.unusedVariables false
set_option linter.unusedSimpArgs false
namespace Go.Proofs.YtpcfdngnmigkfaaGreatDoor
open Go.RowKit
namespace Sy
open Lx (Bs Tok)
open Sx
theorem namesL_yes {ts : List Tok} {n : Nat} {l : List Bs} {i : Nat} (c : isAt ts i 3 [] = true) : namesL ts (n + 1) l i = if isAt ts (i + 1) 4 [44] then namesL ts n (l ++ [((ts[i]?).getD zTok).text]) (i + 2) else (l ++ [((ts[i]?).getD zTok).text], want ts (i + 1) [[59]]) := by rw [namesL, if_pos c]
theorem namesL_no {ts : List Tok} {n : Nat} {l : List Bs} {i : Nat} (c : isAt ts i 3 [] = false) : namesL ts (n + 1) l i = (l, i, bad i) := by rw [namesL, if_neg (by rw [c]; decide)]
theorem isAt_kind {ts : List Tok} {i k : Nat} (h : i < ts.length) : isAt ts i k [] = decide (ts[i].kind = k) := by unfold isAt; rw [List.getElem?_eq_getElem h]; simp
end Sy
def RRes (w : World) (r : (List Sx.Rng × List Lx.Bs) × Nat × Sy.Stop) (e : Ending) (w' : World) : Prop :=
 ∃ (v8 v9 : Value) (rs : List Sx.Rng) (ns : List Lx.Bs), e = .returned (.tuple #[v8, v9, .int .i64 r.2.1, .agg (stC r.2.2).toArray]) ∧ FlatB rC (fragU w' w.heap.size []) v8 rs ∧ FlatB sC (fragU w' w.heap.size []) v9 ns ∧ (r.2.2.2 = 0 → rs = r.1.1 ∧ ns = r.1.2) ∧ Below w.heap.size w w'
theorem nilBr (h : Frag) : FlatB rC h (.slice none 0 0) ([] : List Sx.Rng) := ⟨⟨none, 0, rfl, Nat.le_refl _, Nat.zero_le _, fun _ => rfl, HRow.nil _ _⟩, by simp⟩
theorem nilBs (h : Frag) : FlatB sC h (.slice none 0 0) ([] : List Lx.Bs) := ⟨⟨none, 0, rfl, Nat.le_refl _, Nat.zero_le _, fun _ => rfl, HRow.nil _ _⟩, by simp⟩
set_option maxHeartbeats 16000000 in
set_option maxRecDepth 100000 in
theorem rres_texts (v : Value) (ts : List Lx.Tok) (hS : Small ts) (i : Nat) (w : World) (h : FlatV tC (frag w) v ts) (hi : i ≤ 800000) (hb : Sy.isAt ts i 3 [] = true) :
  Calls Tryz.prog 84 #[v, .int .i64 i] w (RRes w (Sy.reservedR ts i)) := by
 obtain ⟨ad, cap, rfl, _, hcm, _⟩ := h.len
 obtain ⟨R, hR⟩ : ∃ R, R = Sy.reservedR ts i := ⟨_, rfl⟩
 rw [← hR]
 unfold Sy.reservedR at hR
 have HTk := Yq h
 have HI := Yq (fun j k t w0 (hb : Below w.heap.size w w0) => is_any (.slice ad ts.length cap) ts j k t w0 (h.mono (below_le hb)))
 have HNu := Yq (fun j w0 (hb : Below w.heap.size w w0) (hj : j ≤ 1000000) => rnumb_any (.slice ad ts.length cap) ts j w0 (h.mono (below_le hb)) hj)
 have HW := Yq (fun j t g w0 (hb : Below w.heap.size w w0) hx hne hj => want1_any (.slice ad ts.length cap) ts j t g w0 (h.mono (below_le hb)) hx hne hj)
 unfold RV3 at HNu
 unfold R2 at HW
 have Hfew := Yq hS.few
 have HSm := Yq hS
 obtain ⟨m, hm0⟩ : ∃ m, m = ts.length := ⟨_, rfl⟩
 have HM := Yq hm0.symm
 rw [← hm0] at HI HNu HW HTk Hfew hR ⊢
 have HO := Own.nil w
 have HR : Hid (R = (([], (Sy.namesL ts (m + 2) [] i).1), (Sy.namesL ts (m + 2) [] i).2)) := Yq (by rw [hR, if_pos hb])
 have hlt := Sy.isAt_lt ts hb
 have hk := Sy.isAt_kind (k := 3) hlt
 rw [hb] at hk
 have qk : ts[i].kind = 3 := of_decide_eq_true hk.symm
 have hjm : decide ((i : Int) < (m : Int)) = true := decide_eq_true (by rw [HM.out] at hlt; omega)
 have hjm2 : (i : Int) < (m : Int) := by rw [HM.out] at hlt; omega
 clear hm0 hR h hS hk hb
 go_enter Tryz.func84, Tryz.ntmps84
 go_upto_region 1 with (first
  | (refine wpList_alloc_own rfl 100 rfl zSt zeroStp HO ?_; clear HO; intro w1 g2 HO)
  | fail)
 go_upto_region 2 with fail
 have HO1 : OwnR w [(g2, zSt)] [rowOf 9 1 sC (.slice (some ⟨w1.heap.size + 1, 0, none⟩) 0 0) [], rowOf 112 2 rC (.slice (some ⟨w1.heap.size, 0, none⟩) 0 0) []] (fun _ => True) ((w1.alloc (.cells #[] 112)).alloc (.cells #[] 9)) := by
  have h1 := ((OwnR.start HO [] (fun r hr => by cases hr)).lit 112 2).lit 9 1
  have e : (w1.alloc (.cells #[] 112)).heap.size = w1.heap.size + 1 := by simp
  rw [e] at h1
  exact h1
 clear HO
 obtain ⟨b0, o0, hbl0, hidx0, hcell0⟩ := FlatV.at (n := m) (cap := cap) (a := ad) (HTk.out.mono (below_le HO1.below)) tC_len (by decide) (i := i) hlt Tryz.underlying102 sizeRTks
 have d0 : ((w1.alloc (.cells #[] 112)).alloc (.cells #[] 9)).cell? ⟨b0, o0, none⟩ = some (.int .i64 3) := by
  have h9 : ((w1.alloc (.cells #[] 112)).alloc (.cells #[] 9)).cell? ⟨b0, o0, none⟩ = some (.int .i64 ts[i].kind) := by have := hcell0 0 _ rfl; rw [Nat.add_zero] at this; exact this
  rw [qk] at h9; exact h9
 clear hcell0 qk
 have HO2 := Yq HO1
 clear HO1
 go_wp2_with fail
 go_loopg [1, 8, 9] (m + 2) (fun fu av v8 v9 wr => ∃ (l : List Lx.Bs) (j : Nat) (u8 u9 : Value), av = .int .i64 j ∧ u8 = v8 ∧ u9 = v9 ∧ Hid (OwnR w [(g2, zSt)] [rowOf 9 1 sC u9 l, rowOf 112 2 rC u8 []] (fun _ => True) wr) ∧ Hid (R = (([], (Sy.namesL ts fu l j).1), (Sy.namesL ts fu l j).2)) ∧ 1 ≤ fu ∧ m + 2 ≤ fu + j ∧ j ≤ 850000 ∧ l.length + fu ≤ m + 2)
 case atStart => exact ⟨[], i, _, _, rfl, rfl, rfl, HO2, HR, by omega, by omega, by omega, by simp⟩
 case round =>
  clear HO2 HR d0 hjm hjm2 hlt
  obtain ⟨l, j, u8, u9, rfl, rfl, rfl, HO, HR, hf1, hf2, hj, hlf⟩ := hrel
  replace HO := HO.out
  obtain ⟨fu, rfl⟩ : ∃ n, gk = n + 1 := ⟨gk - 1, by omega⟩
  have hm5 := Hfew.out
  by_cases hlt : j < ts.length
  ·have hjm : decide ((m : Int) ≤ (j : Int)) = false := decide_eq_false (by rw [HM.out] at hlt; omega)
   have hjm2 : ¬ (m : Int) ≤ (j : Int) := by rw [HM.out] at hlt; omega
   obtain ⟨b0, o0, hbl0, hidx0, hcell0⟩ := FlatV.at (n := m) (cap := cap) (a := ad) (HTk.out.mono (below_le HO.below)) tC_len (by decide) (i := j) hlt Tryz.underlying102 sizeRTks
   have d0 : wr.cell? ⟨b0, o0, none⟩ = some (.int .i64 ts[j].kind) := by have := hcell0 0 _ rfl; rw [Nat.add_zero] at this; exact this
   have d1 : wr.cell? ⟨b0, o0 + 1, none⟩ = some (.string (toB ts[j].text)) := hcell0 1 _ rfl
   have hk := Sy.isAt_kind (k := 3) hlt
   have hgd : (ts[j]?).getD Sx.zTok = ts[j] := by rw [List.getElem?_eq_getElem hlt]; rfl
   cases hs : Sy.isAt ts j 3 []
   ·have qk : ((ts[j].kind : Int) == 3) = false := by
     rw [hs] at hk
     have := of_decide_eq_false hk.symm
     rw [beq_eq_false_iff_ne]; omega
    generalize ts[j] = x at *
    clear hcell0 hk hgd
    have HRe : Hid (R.2 = (j, Sy.bad j)) := Yq (by rw [HR.out, Sy.namesL_no hs])
    have hnz : R.2.2.2 ≠ 0 := by rw [HRe.out]; simp [Sy.bad]
    clear HR
    go_wp2_with (first
     | (go_at_call 58; (with_reducible refine (bad_any j _).mono ?_); rintro e w4 ⟨rfl, hb⟩; replace HO := HO.call hb; clear hb)
     | (refine wpList_store_ownR 0 rfl 100 _ _ rfl _ 0 (stC (Sy.bad j)) rfl rfl HO rfl infoStp (Nat.le_refl _) (one_stC _) rfl ?_; clear HO; intro w9 HO)
     | fail)
    refine bodyPost_ret (v := .tuple #[.slice none 0 0, .slice none 0 0, .int .i64 R.2.1, .agg (stC R.2.2).toArray]) ?_ rfl ⟨.slice none 0 0, .slice none 0 0, [], [], rfl, nilBr _, nilBs _, (fun e => absurd e hnz), HO.own.below⟩
    exact results_tttc rfl (by kernel_rfl) (by kernel_rfl) (by rw [HRe.out]; kernel_rfl) (by kernel_rfl) (by rw [HRe.out]; exact run_load_blk (HO.own.at 0 rfl) _ Tryz.underlying100 rfl infoStp)
   ·have qk : ts[j].kind = 3 := by rw [hs] at hk; exact of_decide_eq_true hk.symm
    rw [qk] at d0
    have HRy : Hid (R = (([], (if Sy.isAt ts (j + 1) 4 [44] then Sy.namesL ts fu (l ++ [ts[j].text]) (j + 2) else (l ++ [ts[j].text], Sy.want ts (j + 1) [[59]])).1), (if Sy.isAt ts (j + 1) 4 [44] then Sy.namesL ts fu (l ++ [ts[j].text]) (j + 2) else (l ++ [ts[j].text], Sy.want ts (j + 1) [[59]])).2)) := Yq (by rw [HR.out, Sy.namesL_yes hs, hgd])
    generalize ts[j] = x at *
    have hn5 : (l.length + 1) * 16 ≤ 140737488355328 := by omega
    have HI2 := Yq (fun w0 hb => HI.out (j + 1) 4 [44] w0 hb)
    clear hcell0 hk hgd qk HR
    go_upto_region 23 with (first
     | (refine wpList_buildSlice1 rfl 42 9 _ rfl [.string (toB x.text)] (.string (toB x.text)) rfl Tryz.underlying42 infoStr (by simp) (by simp) rfl ?_)
     | (at_builtin; refine wpList_append_ownR (L := []) (M := [rowOf 112 2 rC u8 []]) T_St rfl _ _ rfl [.string (toB x.text)] HO rfl rfl rfl (one_sC x.text) hn5 ?_; (intro u7 w9 HO9 hone9; clear d0 d1)))
    have HOn : OwnR w [(g2, zSt)] [rowOf 9 1 sC u7 (l ++ [x.text]), rowOf 112 2 rC u8 []] (fun _ => True) w9 := by
     rw [rowOf_snoc]
     exact HO9
    clear HO9 HO
    have HO := HOn
    clear HOn
    cases hd : Sy.isAt ts (j + 1) 4 [44]
    ·rw [hd] at HI2
     have HW2 := Yq (fun g w0 hb hx => HW.out (j + 1) [59] g w0 hb hx (by decide) (by omega))
     have HRz : Hid (R = (([], l ++ [x.text]), Sy.want ts (j + 1) [[59]])) := Yq (by rw [HRy.out, hd, if_neg (by decide)])
     clear HRy hd
     generalize Sy.want ts (j + 1) [[59]] = B at *
     obtain ⟨q, s⟩ := B
     dsimp only at HW2
     have HRe : Hid (R.2 = (q, s)) := Yq (by rw [HRz.out])
     go_upto_region 25 with (first
   | (go_at_call 59; (refine (HI2.out _ HO.below).mono ?_); rintro e w3 ⟨rfl, rfl⟩)
   | (refine wpList_str1_ownR rfl _ rfl HO ?_; clear HO; intro w7 g7 HO)
   | (go_at_call 57; (refine (HW2.out _ _ HO.below (HO.own.at 0 rfl)).mono ?_); rintro e w8 ⟨rfl, hb⟩; replace HO := (HO.call hb).sub (List.sublist_cons_self _ _); clear hb)
   | (refine wpList_alloc_ownR rfl 100 rfl zSt zeroStp HO ?_; clear HO; intro w1 g16 HO)
   | (refine wpList_store_ownR 0 rfl 100 _ _ rfl _ 0 (stC s) rfl rfl HO rfl infoStp (Nat.le_refl _) (one_stC _) rfl ?_; clear HO; intro w6 HO)
   | fail)
     have Hln : Hid ((l ++ [x.text]).length ≤ 10000) := Yq (by simp; omega)
     refine wp_ret8n (by kernel_rfl) (by kernel_rfl) rfl (fun _ _ _ _ _ h => h) HO (u8) (u7) (.int .i64 q) (u8) (u7) (.int .i64 q) 0 1 rfl rfl (.inl rfl) (by kernel_rfl) (.inl rfl) (by kernel_rfl) (.inl rfl) (by kernel_rfl) rfl (by kernel_rfl) (.inr rfl) (by kernel_rfl) (.inr rfl) (by kernel_rfl) (.inr rfl) (by kernel_rfl) rfl rfl (by kernel_rfl) (by kernel_rfl) Tryz.underlying100 rfl infoStp rfl (one_stC _) ?_
     intro w10 HO10
     go_wp2_with fail
     have hF8 := FlatV.of_ownsU (f := rC) (HO10.rows.own (rowOf 112 2 rC u8 []) (by simp)) (Nat.le_refl _)
     have hF9 := FlatV.of_ownsU (f := sC) (HO10.rows.own (rowOf 9 1 sC u7 (l ++ [x.text])) (by simp)) (Nat.le_refl _)
     refine bodyPost_ret (v := .tuple #[u8, u7, .int .i64 R.2.1, .agg (stC R.2.2).toArray]) ?_ rfl ⟨u8, u7, [], (l ++ [x.text]), rfl, ⟨hF8, by simp⟩, ⟨hF9, Hln.out⟩, (fun _ => by rw [HRz.out]; exact ⟨rfl, rfl⟩), HO10.own.below⟩
     exact results_tttc rfl (by kernel_rfl) (by kernel_rfl) (by rw [HRe.out]; kernel_rfl) (by kernel_rfl) (by rw [HRe.out]; exact run_load_blk (HO10.own.at 1 rfl) _ Tryz.underlying100 rfl infoStp)
    ·rw [hd] at HI2
     have hltn := Sy.isAt_lt ts hd
     rw [HM.out] at hltn
     have HRn : Hid (R = (([], (Sy.namesL ts fu (l ++ [x.text]) (j + 2)).1), (Sy.namesL ts fu (l ++ [x.text]) (j + 2)).2)) := Yq (by rw [HRy.out, hd, if_pos rfl])
     have HOn := Yq HO
     clear HRy hd HO
     go_wp2_with (go_at_call 59; (refine (HI2.out _ HOn.out.below).mono ?_); rintro e w3 ⟨rfl, rfl⟩)
     go_roundg fu
     case measure => omega
     case rel => exact ⟨l ++ [x.text], j + 2, u8, u7, by go_num, rfl, rfl, HOn, HRn, by omega, by omega, by omega, by simp; omega⟩
  ·have hs : Sy.isAt ts j 3 [] = false := by
    cases c : Sy.isAt ts j 3 [] with
    | false => rfl
    | true => exact absurd (Sy.isAt_lt ts c) hlt
   have hjm : decide ((m : Int) ≤ (j : Int)) = true := decide_eq_true (by rw [HM.out] at hlt; omega)
   have hjm2 : (m : Int) ≤ (j : Int) := by rw [HM.out] at hlt; omega
   have HRe : Hid (R.2 = (j, Sy.bad j)) := Yq (by rw [HR.out, Sy.namesL_no hs])
   have hnz : R.2.2.2 ≠ 0 := by rw [HRe.out]; simp [Sy.bad]
   clear HR
   go_wp2_with (first
    | (go_at_call 58; (with_reducible refine (bad_any j _).mono ?_); rintro e w4 ⟨rfl, hb⟩; replace HO := HO.call hb; clear hb)
    | (refine wpList_store_ownR 0 rfl 100 _ _ rfl _ 0 (stC (Sy.bad j)) rfl rfl HO rfl infoStp (Nat.le_refl _) (one_stC _) rfl ?_; clear HO; intro w9 HO)
    | fail)
   refine bodyPost_ret (v := .tuple #[.slice none 0 0, .slice none 0 0, .int .i64 R.2.1, .agg (stC R.2.2).toArray]) ?_ rfl ⟨.slice none 0 0, .slice none 0 0, [], [], rfl, nilBr _, nilBs _, (fun e => absurd e hnz), HO.own.below⟩
   exact results_tttc rfl (by kernel_rfl) (by kernel_rfl) (by rw [HRe.out]; kernel_rfl) (by kernel_rfl) (by rw [HRe.out]; exact run_load_blk (HO.own.at 0 rfl) _ Tryz.underlying100 rfl infoStp)
end Go.Proofs.YtpcfdngnmigkfaaGreatDoor
