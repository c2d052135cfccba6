/- The reference redlineref08, walked: oneof. -/
import Derived.Test.YtpcfdngnmigkfaaGreatDoorRyEnum
import Derived.Test.YtpcfdngnmigkfaaGreatDoorGroupF
set_option linter.unusedVariables false
set_option linter.unusedSimpArgs false
namespace Go.Proofs.YtpcfdngnmigkfaaGreatDoor
open Go.RowKit
namespace Sy
open Lx (Bs Tok)
open Sx
def OneL (ts : List Tok) (k : Nat) (x : Tok) (R : (Bs × List Fld) × Nat × Stop) (n : Nat) (l : List Fld) (j : Nat) (s : Stop) : Prop :=
 if s.2 = 0 then R = ((x.text, (fieldsL ts n k l j).1), (fieldsL ts n k l j).2) else R.2 = (j, s)
theorem OneL.bad {ts : List Tok} {k : Nat} {x : Tok} {R : (Bs × List Fld) × Nat × Stop} {n : Nat} {l : List Fld} {j : Nat} {s : Stop} (h : OneL ts k x R n l j s) (hs : ¬ s.2 = 0) : R.2 = (j, s) := by unfold OneL at h; rw [if_neg hs] at h; exact h
theorem OneL.ok {ts : List Tok} {k : Nat} {x : Tok} {R : (Bs × List Fld) × Nat × Stop} {n : Nat} {l : List Fld} {j : Nat} {s : Stop} (h : OneL ts k x R n l j s) (hs : s.2 = 0) : R = ((x.text, (fieldsL ts n k l j).1), (fieldsL ts n k l j).2) := by unfold OneL at h; rw [if_pos hs] at h; exact h
theorem fieldsL_end {ts : List Tok} {n k : Nat} {l : List Fld} {i : Nat} (c : isAt ts (onAt ts i) 4 [125] = true) : fieldsL ts (n + 1) k l i = if l = [] then (l, onAt ts i, bad (onAt ts i)) else (l, onAt ts i + 1, none0) := by rw [fieldsL, if_pos c]
theorem fieldsL_more {ts : List Tok} {n k : Nat} {l : List Fld} {i : Nat} (c : isAt ts (onAt ts i) 4 [125] = false) : fieldsL ts (n + 1) k l i = if (Sy.field ts (onAt ts i) 1 k).2.2.2 ≠ 0 then (l, (Sy.field ts (onAt ts i) 1 k).2.1, (Sy.field ts (onAt ts i) 1 k).2.2) else fieldsL ts n k (l ++ [(Sy.field ts (onAt ts i) 1 k).1]) (Sy.field ts (onAt ts i) 1 k).2.1 := by rw [fieldsL, if_neg (by rw [c]; decide)]
theorem option1_le (ts : List Tok) (f : Fld) (i m : Nat) (h : i ≤ m) (hm : ts.length ≤ m) (h0 : (option1 ts f i).2.2.2 = 0) : (option1 ts f i).2.1 ≤ m := by
 unfold option1 at h0 ⊢
 split
 ·rename_i c; rw [if_pos c] at h0
  dsimp only at h0 ⊢
  split
  ·exact h
  ·rename_i c1; rw [if_neg c1] at h0
   split
   ·rename_i c2; have := isAt_lt ts c2; dsimp only; omega
   ·rename_i c2; rw [if_neg c2] at h0
    split
    ·rename_i c3; have := isAt_lt ts c3; dsimp only; omega
    ·exact h
 ·rename_i c; rw [if_neg c] at h0
  split
  ·rename_i d; rw [if_pos d] at h0
   dsimp only at h0 ⊢
   split
   ·exact h
   ·rename_i c1; rw [if_neg c1] at h0
    split
    ·exact h
    ·rename_i c2
     rw [if_neg c2] at h0
     have h1 : isAt ts (want ts (i + 1) [[61]]).1 1 [] = true := by
      cases q : isAt ts (want ts (i + 1) [[61]]).1 1 [] with
      | true => rfl
      | false => exact absurd (by unfold name; rw [q]; simp [bad]) c2
     have := isAt_lt ts h1
     have := name_le ts (want ts (i + 1) [[61]]).1
     dsimp only; omega
  ·exact h
theorem want1_le (ts : List Tok) (i : Nat) (t : Bs) (m : Nat) (h : i ≤ m) (hm : ts.length ≤ m) : (want ts i [t]).1 ≤ m := by
 rw [want]; split
 ·rename_i c; have := isAt_lt ts c; rw [want]; dsimp only; omega
 ·exact h
theorem optionsL_le (ts : List Tok) : ∀ (n : Nat) (f : Fld) (i m : Nat), i ≤ m → ts.length ≤ m → (optionsL ts n f i).2.2.2 = 0 → (optionsL ts n f i).2.1 ≤ m
 | 0, f, i, m, h, _, _ => h
 | n + 1, f, i, m, h, hm, h0 => by
  rw [optionsL_mid] at h0 ⊢
  split
  ·rename_i c; rw [if_pos c] at h0; exact absurd h0 c
  ·rename_i c; rw [if_neg c] at h0
   unfold optMid at h0 ⊢
   have h1 := option1_le ts f (i + 1) (m + 1) (by omega) (by omega) (by simpa using c)
   split
   ·rename_i d
    rw [if_pos d] at h0
    have := isAt_lt ts d
    exact optionsL_le ts n _ _ m (by omega) hm h0
   ·rename_i d
    rw [if_neg d] at h0
    have hw : isAt ts (option1 ts f (i + 1)).2.1 (kindOf [93]) [93] = true := by
     cases q : isAt ts (option1 ts f (i + 1)).2.1 (kindOf [93]) [93] with
     | true => rfl
     | false => rw [want, if_neg (by rw [q]; decide)] at h0; cases h0
    have := isAt_lt ts hw
    exact want1_le ts _ _ m (by omega) hm
theorem options_le (ts : List Tok) (f : Fld) (i m : Nat) (h : i ≤ m) (hm : ts.length ≤ m) (h0 : (options ts f i).2.2.2 = 0) : (options ts f i).2.1 ≤ m := by
 rw [options_end] at h0 ⊢
 obtain ⟨A, hA⟩ : ∃ A, A = (if isAt ts i 4 [91] = true then optionsL ts (ts.length + 1) f i else (f, i, none0)) := ⟨_, rfl⟩
 rw [← hA] at h0 ⊢
 have h1 : A.2.2.2 = 0 → A.2.1 ≤ m := by
  rw [hA]; split
  ·exact optionsL_le ts _ _ _ m h hm
  ·intro _; exact h
 unfold optEnd at h0 ⊢
 by_cases q : A.2.2.2 = 0
 ·rw [if_neg (by simpa using q)]; exact want1_le ts _ _ m (h1 q) hm
 ·rw [if_pos q] at h0; exact absurd h0 q
theorem rest_le (ts : List Tok) (f : Fld) (i m : Nat) (h : i ≤ m) (hm : ts.length ≤ m) (h0 : (rest ts f i).2.2.2 = 0) : (rest ts f i).2.1 ≤ m := by
 have hn : ∀ j, (name ts j).2.2.2 = 0 → j < ts.length := fun j c => by
  unfold name at c; split at c
  ·rename_i d; exact isAt_lt ts d
  ·cases c
 unfold rest at h0 ⊢
 dsimp only at h0 ⊢
 split
 ·rename_i c; rw [if_pos c] at h0; exact absurd h0 c
 ·rename_i c; rw [if_neg c] at h0
  have a1 := name_le ts i
  have a2 := hn i (by simpa using c)
  have a3 := want1_le ts (name ts i).2.1 [61] m (by omega) hm
  split
  ·rename_i d; rw [if_pos d] at h0; exact absurd h0 d
  ·rename_i d; rw [if_neg d] at h0
   split
   ·rename_i e; rw [if_pos e] at h0; exact absurd h0 e
   ·rename_i e; rw [if_neg e] at h0
    have a4 : (number ts (want ts (name ts i).2.1 [[61]]).1).2.1 ≤ m := by
     unfold number at e ⊢
     split
     ·rename_i q; have := isAt_lt ts q; dsimp only; omega
     ·exact a3
    exact options_le ts _ _ m a4 hm h0
theorem field_le (ts : List Tok) (i a b m : Nat) (h : i ≤ m) (hm : ts.length ≤ m) (h0 : (Sy.field ts i a b).2.2.2 = 0) : (Sy.field ts i a b).2.1 ≤ m := by
 unfold Sy.field at h0 ⊢
 dsimp only at h0 ⊢
 have hd := dotted_le ts i true m h hm
 split
 ·rename_i c; rw [if_pos c] at h0; exact absurd h0 c
 ·rename_i c; rw [if_neg c] at h0
  exact rest_le ts _ _ m hd hm h0
end Sy
def ROne (w : World) (r : (Lx.Bs × List Sx.Fld) × Nat × Sy.Stop) (e : Ending) (w' : World) : Prop :=
 ∃ (t : Lx.Bs) (v : Value) (xs : List Sx.Fld), e = .returned (.tuple #[.string (toB t), v, .int .i64 r.2.1, .agg (stC r.2.2).toArray]) ∧ FlatB fC (fragU w' w.heap.size []) v xs ∧ (r.2.2.2 = 0 → t = r.1.1 ∧ xs = r.1.2) ∧ Below w.heap.size w w'
theorem nilB (h : Frag) : FlatB fC h (.slice none 0 0) ([] : List Sx.Fld) := ⟨⟨none, 0, rfl, Nat.le_refl _, Nat.zero_le _, fun _ => rfl, HRow.nil _ _⟩, by simp⟩
set_option maxHeartbeats 16000000 in
set_option maxRecDepth 100000 in
theorem roneof_any (v : Value) (ts : List Lx.Tok) (hS : Small ts) (i which : Nat) (w : World) (h : FlatV tC (frag w) v ts) (hi : i ≤ 800000) :
  Calls Tryz.prog 83 #[v, .int .i64 i, .int .i64 which] w (ROne w (Sy.oneofR ts i which)) := by
 obtain ⟨ad, cap, rfl, _, _, _⟩ := h.len
 obtain ⟨R, hR⟩ : ∃ R, R = Sy.oneofR ts i which := ⟨_, rfl⟩
 rw [← hR]
 unfold Sy.oneofR at hR
 have HI := Yq (fun j k t w0 (hb : Below w.heap.size w w0) => is_any (.slice ad ts.length cap) ts j k t w0 (h.mono (below_le hb)))
 have HSe := Yq (fun j w0 (hb : Below w.heap.size w w0) (hj : j ≤ 1000000) => rsemis_any (.slice ad ts.length cap) ts (Nat.le_trans hS.few (by decide)) j w0 (h.mono (below_le hb)) hj)
 have HFd := Yq (fun j w0 (hb : Below w.heap.size w w0) (hj : j ≤ 900000) => rfield_any (.slice ad ts.length cap) ts hS 1 which j w0 (h.mono (below_le hb)) hj)
 have HH := Yq (fun w0 (hb : Below w.heap.size w w0) => rhead_any (.slice ad ts.length cap) ts i w0 (h.mono (below_le hb)) (Nat.le_trans hi (by decide)))
 have Honl := Yq (fun j => Sy.onAt_le ts j (max j ts.length) (Nat.le_max_left _ _) (Nat.le_max_right _ _))
 unfold R3 at HFd HH
 have Hfew := Yq hS.few
 have hle0 := Sy.head_le ts i
 obtain ⟨m, hm0⟩ : ∃ m, m = ts.length := ⟨_, rfl⟩
 have HM := Yq hm0.symm
 rw [← hm0] at HI HSe HFd HH Honl Hfew hR ⊢
 generalize Sy.head ts i = A at *
 obtain ⟨x, j0, s0⟩ := A
 dsimp only at HH hle0 hR
 have HR : Hid (Sy.OneL ts which x R (m + 2) [] j0 s0) := Yq (by
  unfold Sy.OneL
  by_cases c : s0.2 = 0
  ·rw [if_pos c, hR, if_neg (by simpa using c)]
  ·rw [if_neg c, hR, if_pos (by simpa using c)])
 have hbs := stp_build0
 have HO := Own.nil w
 clear hm0 hR h hS
 go_enter Tryz.func83, Tryz.ntmps83
 go_upto_region 1 with (first
  | (refine wpList_alloc_own rfl 100 rfl zSt zeroStp HO ?_; clear HO; intro w1 g2 HO)
  | fail)
 go_upto_region 2 with (first
  | (go_at_call 87; (refine (HH.out _ HO.below).mono ?_); rintro e w3 ⟨rfl, hb⟩; replace HO := HO.call hb; clear hb)
  | (refine wpList_alloc_own rfl 95 rfl zT zeroRTk HO ?_; clear HO; intro w1 gT HO)
  | (refine wpList_alloc_own rfl 100 rfl zSt zeroStp HO ?_; clear HO; intro w1 gS HO)
  | (refine wpList_store_own 1 rfl 95 _ _ rfl _ 0 (tC x) rfl rfl HO rfl infoRTk (Nat.le_refl _) (one_tC _) rfl ?_; clear HO; intro w6 HO)
  | (refine wpList_store_own 0 rfl 100 _ _ rfl _ 0 (stC s0) rfl rfl HO rfl infoStp (Nat.le_refl _) (one_stC _) rfl ?_; clear HO; intro w6 HO)
  | fail)
 have HO1 := Yq ((OwnR.start HO [] (fun r hr => by cases hr)).lit 110 10)
 clear HO
 go_wp2_with fail
 go_simp
 go_loopg [1, 12] (m + 2) (fun fu av ov wr => ∃ (l : List Sx.Fld) (j : Nat) (s : Sy.Stop) (u : Value), av = .int .i64 j ∧ u = ov ∧ Hid (OwnR w [(gS, stC s), (gT, tC x), (g2, zSt)] [rowOf 110 10 fC u l] (fun _ => True) wr) ∧ Hid (Sy.OneL ts which x R fu l j s) ∧ (s.2 = 0 → m + 2 ≤ fu + j ∧ j ≤ 850000 ∧ 1 ≤ fu) ∧ l.length + fu ≤ m + 2)
 case atStart => exact ⟨[], j0, s0, _, rfl, rfl, HO1, HR, (fun _ => by omega), by simp⟩
 case round =>
  obtain ⟨l, j, s, u, rfl, rfl, HO, HR, hb, hlf⟩ := hrel
  replace HO := HO.out
  by_cases hs0 : s.2 = 0
  ·have e1 : wr.cell? ⟨gS, 1, none⟩ = some (.int .i64 0) := ((HO.own.at 0 rfl).cell (o := 1) rfl).trans (by rw [show ((s.2 : Nat) : Int) = 0 by omega])
   obtain ⟨hb1, hb2, hb3⟩ := hb hs0
   obtain ⟨fu, rfl⟩ : ∃ n, gk = n + 1 := ⟨gk - 1, by omega⟩
   have HS1 := Yq (fun w0 hb => HSe.out j w0 hb (by omega))
   have hol := Honl.out j
   have hog := Sy.onAt_ge ts j
   obtain ⟨p, hp⟩ : ∃ p, p = Sy.onAt ts j := ⟨_, rfl⟩
   rw [← hp] at HS1 hol hog
   have Hp : Hid (Sy.onAt ts j = p) := Yq hp.symm
   clear hp hb
   have hpl : p ≤ 855000 := by have := Hfew.out; omega
   have HI5 := Yq (fun w0 hb => HI.out p 4 [125] w0 hb)
   obtain ⟨ua, uc, rfl, _, _, _, _⟩ := FlatV.of_ownsU (f := fC) (HO.rows.own (rowOf 110 10 fC u l) (by simp)) (Nat.le_refl _)
   cases hc : Sy.isAt ts p 4 [125]
   ·rw [hc] at HI5
    have HF1 := Yq (fun w0 hb => HFd.out p w0 hb (by omega))
    have hnx := Sy.field_next ts (i := p) (a := 1) (b := which)
    have hlt := Sy.field_lt ts (i := p) (a := 1) (b := which)
    have hfl := Sy.field_le ts p 1 which (max p m) (Nat.le_max_left _ _) (by rw [HM.out]; exact Nat.le_max_right _ _)
    obtain ⟨B, hB⟩ : ∃ B, B = Sy.field ts p 1 which := ⟨_, rfl⟩
    have HB := Yq hB.symm
    rw [← hB] at HF1 hnx hlt hfl
    clear hB
    obtain ⟨y, q, s1⟩ := B
    dsimp only at HF1 hnx hlt hfl
    have hn5 : (l.length + 1) * 112 ≤ 140737488355328 := by have := Hfew.out; omega
    go_upto_region 11 with (first
   | (go_at_call 82; (refine (HS1.out _ HO.below).mono ?_); rintro e w3 ⟨rfl, rfl⟩)
   | (go_at_call 59; (refine (HI5.out _ HO.below).mono ?_); rintro e w3 ⟨rfl, rfl⟩)
   | (refine wpList_alloc_ownR rfl 110 rfl zF zeroF8 HO ?_; clear HO; intro w1 gF HO)
   | (go_at_call 85; (refine (HF1.out _ HO.below).mono ?_); rintro e w3 ⟨rfl, hb⟩; replace HO := HO.call hb; clear hb)
   | (refine wpList_store_ownR 0 rfl 110 _ _ rfl _ 0 (fC y) rfl rfl HO rfl infoF8 (Nat.le_refl _) (one_fC _) rfl ?_; clear HO; intro w5 HO)
   | (refine wpList_store_ownR 1 rfl 100 _ _ rfl _ 0 (stC s1) rfl rfl HO rfl infoStp (Nat.le_refl _) (one_stC _) rfl ?_; clear HO; intro w6 HO)
   | fail)
    have hvl := (HO.own.at 0 rfl).whole
    go_wp2_with (first
     | (refine wpList_load_seg rfl 110 _ rfl _ _ rfl _ _ hvl Tryz.underlying110 rfl infoRF ?_)
     | (refine wpList_buildSlice1 rfl 60 110 _ rfl (fC y) (.agg (fC y).toArray) rfl Tryz.underlying60 info2RF (show 0 < 10 by decide) (show 10 ≤ 1000 by decide) rfl ?_)
     | (at_builtin; refine wpList_append_ownR (L := []) (M := []) T_RF rfl _ _ rfl (fC y) HO rfl rfl rfl (one_fC _) hn5 ?_; (intro u9 w9 HO9 hone9; clear hvl)))
    have HOn : Hid (OwnR w [(gS, stC s1), (gT, tC x), (g2, zSt)] [rowOf 110 10 fC u9 (l ++ [y])] (fun _ => True) w9) := Yq (by
     rw [rowOf_snoc]
     exact HO9.sub (.cons _ (List.Sublist.refl _)))
    have HRn : Hid (Sy.OneL ts which x R fu (l ++ [y]) q s1) := Yq (by
     have h2 := Sy.OneL.ok HR.out hs0
     rw [Sy.fieldsL_more (by rw [Hp.out]; exact hc), Hp.out, HB.out] at h2
     unfold Sy.OneL
     by_cases c : s1.2 = 0
     ·rw [if_pos c, h2, if_neg (by simpa using c)]
     ·rw [if_neg c, h2, if_pos (by simpa using c)])
    have hltm : s1.2 = 0 → p < m := fun e => by rw [← HM.out]; exact hlt e
    clear HO9 HR HB HF1 HS1 HI5
    go_roundg fu
    case measure => omega
    case rel => exact ⟨l ++ [y], q, s1, _, rfl, rfl, HOn, HRn, (fun e => by have := hnx e; have := hltm e; have := hfl e; have := Hfew.out; omega), by simp; omega⟩
   ·rw [hc] at HI5
    have hvr := Sy.OneL.ok HR.out hs0
    rw [Sy.fieldsL_end (by rw [Hp.out]; exact hc), Hp.out] at hvr
    obtain ⟨n0, hn0⟩ : ∃ n, n = l.length := ⟨_, rfl⟩
    rw [← hn0] at HO ⊢
    have Hln := Yq hlf
    clear hlf
    cases l with
    | nil =>
     rw [if_pos rfl] at hvr
     have hlq : ((n0 : Int) == 0) = true := by rw [hn0]; rfl
     have HRe : Hid (R.2 = (p, Sy.bad p)) := Yq (by rw [hvr])
     have hnz : R.2.2.2 ≠ 0 := by rw [HRe.out]; simp [Sy.bad]
     clear HR hvr hn0
     go_wp2_with (first
   | (go_at_call 82; (refine (HS1.out _ HO.below).mono ?_); rintro e w3 ⟨rfl, rfl⟩)
   | (go_at_call 59; (refine (HI5.out _ HO.below).mono ?_); rintro e w3 ⟨rfl, rfl⟩)
   | (go_at_call 58; (with_reducible refine (bad_any p _).mono ?_); rintro e w4 ⟨rfl, hb⟩; replace HO := HO.call hb; clear hb)
   | (refine wpList_store_ownR 2 rfl 100 _ _ rfl _ 0 (stC (Sy.bad p)) rfl rfl HO rfl infoStp (Nat.le_refl _) (one_stC _) rfl ?_; clear HO; intro w9 HO)
   | fail)
     refine bodyPost_ret (v := .tuple #[.string (toB []), .slice none 0 0, .int .i64 R.2.1, .agg (stC R.2.2).toArray]) ?_ rfl ⟨[], .slice none 0 0, [], rfl, nilB _, (fun e => absurd e hnz), HO.own.below⟩
     exact results_tttc rfl (by kernel_rfl) (by kernel_rfl) (by rw [HRe.out]; kernel_rfl) (by kernel_rfl) (by rw [HRe.out]; exact run_load_blk (HO.own.at 2 rfl) _ Tryz.underlying100 rfl infoStp)
    | cons y0 l0 =>
     rw [if_neg (by simp)] at hvr
     have HRe : Hid (R = ((x.text, y0 :: l0), p + 1, Sy.none0)) := Yq hvr
     have HRe2 : Hid (R.2 = (p + 1, Sy.none0)) := Yq (by rw [hvr])
     have hlq : ((n0 : Int) == 0) = false := by rw [beq_eq_false_iff_ne, hn0]; simp only [List.length_cons]; omega
     have e5 : wr.cell? ⟨gT, 1, none⟩ = some (.string (toB x.text)) := (HO.own.at 1 rfl).cell (o := 1) rfl
     clear HR hvr hn0
     go_wp2_with (first
   | (go_at_call 82; (refine (HS1.out _ HO.below).mono ?_); rintro e w3 ⟨rfl, rfl⟩)
   | (go_at_call 59; (refine (HI5.out _ HO.below).mono ?_); rintro e w3 ⟨rfl, rfl⟩)
   | (refine wpList_store_ownR 2 rfl 100 _ _ rfl _ 0 (stC Sy.none0) rfl rfl HO rfl infoStp (Nat.le_refl _) (one_stC _) rfl ?_; clear HO; intro w9 HO)
   | fail)
     have hFl := FlatV.of_ownsU (f := fC) (HO.rows.own (rowOf 110 10 fC (.slice ua n0 uc) (y0 :: l0)) (by simp)) (Nat.le_refl _)
     refine bodyPost_ret (v := .tuple #[.string (toB x.text), .slice ua n0 uc, .int .i64 R.2.1, .agg (stC R.2.2).toArray]) ?_ rfl ⟨x.text, .slice ua n0 uc, (y0 :: l0), rfl, ⟨hFl, by have := Hln.out; have := Hfew.out; show (y0 :: l0).length ≤ 10000; omega⟩, (fun _ => by rw [HRe.out]; exact ⟨rfl, rfl⟩), HO.own.below⟩
     exact results_tttc rfl (by kernel_rfl) (by kernel_rfl) (by rw [HRe2.out]; kernel_rfl) (by kernel_rfl) (by rw [HRe2.out]; exact run_load_blk (HO.own.at 2 rfl) _ Tryz.underlying100 rfl infoStp)
  ·obtain ⟨z, hz⟩ : ∃ z, z = (s.2 : Int) := ⟨_, rfl⟩
   have e1 : wr.cell? ⟨gS, 1, none⟩ = some (.int .i64 z) := ((HO.own.at 0 rfl).cell (o := 1) rfl).trans (by rw [hz])
   have q1 : (z == 0) = false := by rw [beq_eq_false_iff_ne]; omega
   have HRe : Hid (R.2 = (j, s)) := Yq (Sy.OneL.bad HR.out hs0)
   have hnz : R.2.2.2 ≠ 0 := by rw [HRe.out]; exact hs0
   clear HR hz hb
   go_upto_region 12 with fail
   refine wp_ret6n (by kernel_rfl) (by kernel_rfl) rfl (fun _ _ _ _ _ h => h) HO.own (.int .i64 j) (.string ⟨#[]⟩) (.slice none 0 0) (.int .i64 j) 0 2 rfl rfl (.inl rfl) (by kernel_rfl) rfl (by kernel_rfl) (.inr rfl) (by kernel_rfl) (.inr rfl) (by kernel_rfl) (.inr rfl) (by kernel_rfl) rfl rfl (by kernel_rfl) (by kernel_rfl) Tryz.underlying100 rfl infoStp rfl (one_stC _) ?_
   intro w9 HO9
   go_wp2_with fail
   refine bodyPost_ret (v := .tuple #[.string (toB []), .slice none 0 0, .int .i64 R.2.1, .agg (stC R.2.2).toArray]) ?_ rfl ⟨[], .slice none 0 0, [], rfl, nilB _, (fun e => absurd e hnz), HO9.below⟩
   exact results_tttc rfl (by kernel_rfl) (by kernel_rfl) (by rw [HRe.out]; kernel_rfl) (by kernel_rfl) (by rw [HRe.out]; exact run_load_blk (HO9.at 2 rfl) _ Tryz.underlying100 rfl infoStp)
end Go.Proofs.YtpcfdngnmigkfaaGreatDoor
