/- The reference redlineref08, walked: options. -/
import Derived.Test.YtpcfdngnmigkfaaGreatDoorGroupG
import Derived.Deep.CutRange
set_option linter.unusedVariables false
set_option linter.unusedSimpArgs false
namespace Go.Proofs.YtpcfdngnmigkfaaGreatDoor
open Go.RowKit
namespace Sy
open Lx (Bs Tok)
open Sx
theorem want_ge (ts : List Tok) : ∀ (xs : List Bs) (i : Nat), i ≤ (want ts i xs).1
 | [], i => by simp [want]
 | t :: r, i => by
  rw [want]; split
  ·have := want_ge ts r (i + 1); omega
  ·simp
theorem name_ge (ts : List Tok) (i : Nat) : i ≤ (name ts i).2.1 := by unfold name; split <;> simp
theorem want1_bad (ts : List Tok) (i : Nat) (t : Bs) (h : (want ts i [t]).2.2 ≠ 0) : (want ts i [t]).1 = i := by
 rw [want] at h ⊢
 split
 ·rename_i c; rw [if_pos c, want] at h; exact absurd rfl h
 ·rfl
def optEnd (ts : List Tok) (a : Fld × Nat × Stop) : Fld × Nat × Stop := if a.2.2.2 ≠ 0 then a else (a.1, (want ts a.2.1 [[59]]).1, (want ts a.2.1 [[59]]).2)
def optMid (ts : List Tok) (n : Nat) (f : Fld) (i : Nat) : Fld × Nat × Stop := if isAt ts i 4 [44] then optionsL ts n f i else (f, (want ts i [[93]]).1, (want ts i [[93]]).2)
theorem options_end (ts : List Tok) (f : Fld) (i : Nat) : options ts f i = optEnd ts (if isAt ts i 4 [91] then optionsL ts (ts.length + 1) f i else (f, i, none0)) := rfl
theorem optionsL_mid (ts : List Tok) (n : Nat) (f : Fld) (i : Nat) : optionsL ts (n + 1) f i = if (option1 ts f (i + 1)).2.2.2 ≠ 0 then option1 ts f (i + 1) else optMid ts n (option1 ts f (i + 1)).1 (option1 ts f (i + 1)).2.1 := rfl
theorem optEnd_bad {ts : List Tok} {a : Fld × Nat × Stop} (h : a.2.2.2 ≠ 0) : optEnd ts a = a := if_pos h
theorem optEnd_ok {ts : List Tok} {f : Fld} {i : Nat} {s : Stop} (h : s.2 = 0) : optEnd ts (f, i, s) = (f, (want ts i [[59]]).1, (want ts i [[59]]).2) := if_neg (by simpa using h)
theorem opt_bad {ts : List Tok} {n : Nat} {f : Fld} {i : Nat} {a : Fld × Nat × Stop} (e : option1 ts f (i + 1) = a) (h : a.2.2.2 ≠ 0) : optEnd ts (optionsL ts (n + 1) f i) = a := by rw [optionsL_mid, e, if_pos h, optEnd_bad h]
theorem opt_ok {ts : List Tok} {n : Nat} {f g : Fld} {i j : Nat} {s : Stop} (e : option1 ts f (i + 1) = (g, j, s)) (h : s.2 = 0) : optEnd ts (optionsL ts (n + 1) f i) = optEnd ts (optMid ts n g j) := by rw [optionsL_mid, e, if_neg (by simpa using h)]
end Sy
theorem zeroF8 : (Tryz.prog.info? 110).map (·.zero) = some (some (.agg zF.toArray)) := by kernel_rfl
theorem infoF8 : (Tryz.prog.info? 110).map (·.size) = some 10 := by kernel_rfl
theorem infoI1 : (Tryz.prog.info? 3).map (·.size) = some 1 := by kernel_rfl
theorem infoS1 : (Tryz.prog.info? 9).map (·.size) = some 1 := by kernel_rfl
set_option maxHeartbeats 8000000 in
set_option maxRecDepth 100000 in
theorem roptions_no (v : Value) (ts : List Lx.Tok) (hS : Small ts) (f : Sx.Fld) (i : Nat) (w : World) (h : FlatV tC (frag w) v ts) (hi : i ≤ 950000) (hb : Sy.isAt ts i 4 [91] = false) :
  Calls Tryz.prog 111 #[v, .agg (fC f).toArray, .int .i64 i] w (R3 w (fC (Sy.options ts f i).1) (Sy.options ts f i).2.1 (Sy.options ts f i).2.2) := by
 obtain ⟨ad, cap, rfl, _, _, _⟩ := h.len
 obtain ⟨R, hR⟩ : ∃ R, R = Sy.options ts f i := ⟨_, rfl⟩
 rw [← hR]
 rw [Sy.options_end] at hR
 have HI := Yq (fun j k t w0 (hb : Below w.heap.size w w0) => is_any (.slice ad ts.length cap) ts j k t w0 (h.mono (below_le hb)))
 have HNm := Yq (fun j w0 (hb : Below w.heap.size w w0) (hj : j ≤ 1000000) => rname_any (.slice ad ts.length cap) ts j w0 (h.mono (below_le hb)) hj)
 have HW := Yq (fun j t g w0 (hb : Below w.heap.size w w0) hx hne hj => want1_any (.slice ad ts.length cap) ts j t g w0 (h.mono (below_le hb)) hx hne hj)
 unfold R3 at HNm
 unfold R2 at HW
 have Hfew := Yq hS.few
 have HO := Own.nil w
 obtain ⟨m, hm0⟩ : ∃ m, m = ts.length := ⟨_, rfl⟩
 rw [← hm0] at HI HNm HW Hfew hR ⊢
 have HM := Yq hm0.symm
 have HR := Yq hR
 clear hm0 hR h hS
 have HI0 := Yq (fun w0 hb => HI.out i 4 [91] w0 hb)
 rw [hb] at HI0
 have HRe : Hid (R = (f, (Sy.want ts i [[59]]).1, (Sy.want ts i [[59]]).2)) := Yq (by rw [HR.out, hb, if_neg (by decide), Sy.optEnd_ok rfl])
 clear HR hb
 go_enter Tryz.func111, Tryz.ntmps111
 go_upto_region 28 with (first
 | (refine wpList_box_own rfl 110 _ rfl (fC f) rfl HO ?_; clear HO; intro w1 gF HO)
 | (refine wpList_alloc_own rfl 110 rfl zF zeroF8 HO ?_; clear HO; intro w1 g1 HO)
 | (refine wpList_alloc_own rfl 100 rfl zSt zeroStp HO ?_; clear HO; intro w1 g2 HO)
 | (go_at_call 59; (refine (HI0.out _ HO.below).mono ?_); rintro e w3 ⟨rfl, rfl⟩)
 | fail)
 have HW1 := Yq (fun g w0 hb hx => HW.out (i) [59] g w0 hb hx (by decide) (by omega))
 generalize Sy.want ts i [[59]] = B at *
 obtain ⟨k, s2⟩ := B
 dsimp only at HW1 HRe
 go_upto_region 29 with (first
  | (refine wpList_str1_own rfl _ rfl HO ?_; clear HO; intro w7 g7 HO)
  | (go_at_call 57; (refine (HW1.out _ _ HO.below (HO.at 0 rfl)).mono ?_); rintro e w8 ⟨rfl, hb⟩; replace HO := (HO.call hb).sub (List.sublist_cons_self _ _); clear hb)
  | (refine wpList_alloc_own rfl 100 rfl zSt zeroStp HO ?_; clear HO; intro w1 g16 HO)
  | (refine wpList_store_own 0 rfl 100 _ _ rfl _ 0 (stC s2) rfl rfl HO rfl infoStp (Nat.le_refl _) (one_stC _) rfl ?_; clear HO; intro w6 HO)
  | fail)
 refine wp_ret6 (by kernel_rfl) (by kernel_rfl) rfl (fun _ _ _ _ _ h => h) HO (.int .i64 (k)) 3 0 2 1 rfl rfl rfl rfl (by decide) (by decide) (by decide) rfl (by kernel_rfl) (.inl rfl) (by kernel_rfl) rfl (by kernel_rfl) rfl rfl (by kernel_rfl) (by kernel_rfl) (.inr rfl) (by kernel_rfl) rfl rfl (by kernel_rfl) (by kernel_rfl) Tryz.underlying110 rfl infoF8 rfl (one_fC _) Tryz.underlying100 rfl infoStp rfl (one_stC _) ?_
 intro w9 HO9
 go_wp2_with fail
 rw [HRe.out]
 refine bodyPost_ret (v := .tuple #[.agg (fC f).toArray, .int .i64 (k), .agg (stC s2).toArray]) ?_ rfl ⟨rfl, HO9.below⟩
 exact results_ctc rfl (by kernel_rfl) (by kernel_rfl) (by kernel_rfl) (run_load_blk (HO9.at 2 rfl) _ Tryz.underlying110 rfl infoF8) (run_load_blk (HO9.at 1 rfl) _ Tryz.underlying100 rfl infoStp)
end Go.Proofs.YtpcfdngnmigkfaaGreatDoor
