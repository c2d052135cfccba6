/- The reference redlineref08, walked: enum. -/
import Derived.Test.YtpcfdngnmigkfaaGreatDoorGroupH
import Derived.Test.YtpcfdngnmigkfaaGreatDoorGroupF
import Derived.Test.YtpcfdngnmigkfaaGreatDoorSxConv
import Derived.Deep.CutRange
set_option linter.unusedVariables false
set_option linter.unusedSimpArgs false
namespace Go.Proofs.YtpcfdngnmigkfaaGreatDoor
open Go.RowKit
namespace Sy
open Lx (Bs Tok)
open Sx
theorem semisL_le (ts : List Tok) : ∀ (n i m : Nat), i ≤ m → ts.length ≤ m → semisL ts n i ≤ m
 | 0, i, m, h, _ => h
 | n + 1, i, m, h, hm => by
  rw [semisL]; split
  ·rename_i c; have := isAt_lt ts c; exact semisL_le ts n _ m (by omega) hm
  ·exact h
theorem onAt_le (ts : List Tok) (i m : Nat) (h : i ≤ m) (hm : ts.length ≤ m) : onAt ts i ≤ m := semisL_le ts _ i m h hm
theorem head_le (ts : List Tok) (i : Nat) : (Sy.head ts i).2.1 ≤ i + 2 := by
 unfold Sy.head; dsimp only
 have := name_le ts i
 split
 ·omega
 ·have := want_le ts [[123]] (name ts i).2.1; simp only [List.length_cons, List.length_nil] at this; dsimp only; omega
def EnmL (ts : List Tok) (x : Tok) (R : Enm × Nat × Stop) (n : Nat) (l : List Val) (j : Nat) (s : Stop) : Prop :=
 if s.2 = 0 then R = (⟨x.text, (valuesL ts n l j).1, x.line, x.col⟩, (valuesL ts n l j).2) else R.2 = (j, s)
theorem EnmL.bad {ts : List Tok} {x : Tok} {R : Enm × Nat × Stop} {n : Nat} {l : List Val} {j : Nat} {s : Stop} (h : EnmL ts x R n l j s) (hs : ¬ s.2 = 0) : R.2 = (j, s) := by unfold EnmL at h; rw [if_neg hs] at h; exact h
theorem EnmL.ok {ts : List Tok} {x : Tok} {R : Enm × Nat × Stop} {n : Nat} {l : List Val} {j : Nat} {s : Stop} (h : EnmL ts x R n l j s) (hs : s.2 = 0) : R = (⟨x.text, (valuesL ts n l j).1, x.line, x.col⟩, (valuesL ts n l j).2) := by unfold EnmL at h; rw [if_pos hs] at h; exact h
theorem valuesL_end {ts : List Tok} {n : Nat} {l : List Val} {i : Nat} (c : isAt ts (onAt ts i) 4 [125] = true) : valuesL ts (n + 1) l i = if l = [] then (l, onAt ts i, bad (onAt ts i)) else (l, onAt ts i + 1, none0) := by rw [valuesL, if_pos c]
theorem valuesL_more {ts : List Tok} {n : Nat} {l : List Val} {i : Nat} (c : isAt ts (onAt ts i) 4 [125] = false) : valuesL ts (n + 1) l i = if (valueR ts (onAt ts i)).2.2.2 ≠ 0 then (l, (valueR ts (onAt ts i)).2.1, (valueR ts (onAt ts i)).2.2) else valuesL ts n (l ++ [(valueR ts (onAt ts i)).1]) (valueR ts (onAt ts i)).2.1 := by rw [valuesL, if_neg (by rw [c]; decide)]
end Sy
theorem enm_build8 (a b : Int) (t : ByteArray) (w : World) : (Instr.build 67 #[(0, .string t), (2, .int .i64 a), (3, .int .i64 b)]).run Tryz.prog w = .ok (.agg #[.string t, .slice none 0 0, .int .i64 a, .int .i64 b]) w := rEnm_build a b t w
theorem val_build8 (a b : Int) (t : ByteArray) (w : World) : (Instr.build 114 #[(0, .string t), (2, .int .i64 a), (3, .int .i64 b)]).run Tryz.prog w = .ok (.agg #[.string t, .int .i64 0, .int .i64 a, .int .i64 b]) w := by kernel_rfl
def eL (t : Lx.Bs) (v : Value) (a b : Nat) : List Value := [.string (toB t), v, .int .i64 a, .int .i64 b]
theorem one_eL {t : Lx.Bs} {v : Value} {a b : Nat} (h : v.oneCell' = true) : ∀ u ∈ eL t v a b, u.oneCell' = true := by intro u hu; simp only [eL, List.mem_cons, List.not_mem_nil, or_false] at hu; rcases hu with rfl | rfl | rfl | rfl <;> first | exact h | rfl
theorem wpList_str1_ownR {ops : Array Oper} {rest : List Oper} {op : Oper} {a : Act} {w w0 : World} {Q : Exit → Act → World → Prop} {l : List (Nat × List Value)} {L : List ORow} {RD : Frag → Prop} (hgd : op.guard = none) (t : ByteArray) (ho : op.op = .buildSlice 42 1 #[(0, .const (.string t))]) (HO : OwnR w0 l L RD w)
  (h : ∀ w2 g, OwnR w0 ((g, [.string t]) :: l) L RD w2 → wpList Tryz.prog ops Q rest (a.put op.dst (.slice (some ⟨g, 0, none⟩) 1 1)) w2) : wpList Tryz.prog ops Q (op :: rest) a w :=
 wpList_buildSlice1 hgd 42 9 _ ho [.string t] (.string t) rfl Tryz.underlying42 infoStr (by simp) (by simp) rfl (h _ _ (HO.lay [.string t] 9))
def RTree {α : Type} (R : Frag → α → List Value → Prop) (size : Nat) (w : World) (r : α × Nat × Sy.Stop) (e : Ending) (w' : World) : Prop :=
 ∃ cs, e = .returned (.tuple #[.agg cs.toArray, .int .i64 r.2.1, .agg (stC r.2.2).toArray]) ∧ cs.length = size ∧ (∀ u ∈ cs, u.oneCell' = true) ∧ (r.2.2.2 = 0 → R (fragU w' w.heap.size []) r.1 cs) ∧ Below w.heap.size w w'
theorem badR {ts : List Lx.Tok} {x : Lx.Tok} {R : Sx.Enm × Nat × Sy.Stop} {n : Nat} {l : List Sx.Val} {j p q : Nat} {s t : Sy.Stop} {y : Sx.Val} (h : Sy.EnmL ts x R (n + 1) l j s) (hs : s.2 = 0) (hp : Sy.onAt ts j = p) (hc : Sy.isAt ts p 4 [125] = false) (hv : Sy.valueR ts p = (y, q, t)) (h0 : ¬ t.2 = 0) : R.2 = (q, t) := by
 have h2 := h.ok hs
 rw [Sy.valuesL_more (by rw [hp]; exact hc), hp, hv, if_pos h0] at h2
 rw [h2]
set_option maxHeartbeats 16000000 in
set_option maxRecDepth 100000 in
theorem renum_any (v : Value) (ts : List Lx.Tok) (hS : Small ts) (i : Nat) (w : World) (h : FlatV tC (frag w) v ts) (hi : i ≤ 900000) :
  Calls Tryz.prog 62 #[v, .int .i64 i] w (RTree EnmR 4 w (Sy.enumR ts i)) := by
 obtain ⟨ad, cap, rfl, _, _, _⟩ := h.len
 obtain ⟨R, hR⟩ : ∃ R, R = Sy.enumR ts i := ⟨_, rfl⟩
 rw [← hR]
 unfold Sy.enumR at hR
 have HI := Yq (fun j k t w0 (hb : Below w.heap.size w w0) => is_any (.slice ad ts.length cap) ts j k t w0 (h.mono (below_le hb)))
 have HSe := Yq (fun j w0 (hb : Below w.heap.size w w0) (hj : j ≤ 1000000) => rsemis_any (.slice ad ts.length cap) ts (Nat.le_trans hS.few (by decide)) j w0 (h.mono (below_le hb)) hj)
 have HNm := Yq (fun j w0 (hb : Below w.heap.size w w0) (hj : j ≤ 1000000) => rname_any (.slice ad ts.length cap) ts j w0 (h.mono (below_le hb)) hj)
 have HNu := Yq (fun j w0 (hb : Below w.heap.size w w0) (hj : j ≤ 1000000) => rnumb_any (.slice ad ts.length cap) ts j w0 (h.mono (below_le hb)) hj)
 have HW := Yq (fun j t g w0 (hb : Below w.heap.size w w0) hx hne hj => want1_any (.slice ad ts.length cap) ts j t g w0 (h.mono (below_le hb)) hx hne hj)
 have HH := Yq (fun w0 (hb : Below w.heap.size w w0) => rhead_any (.slice ad ts.length cap) ts i w0 (h.mono (below_le hb)) hi)
 have Honl := Yq (fun j => Sy.onAt_le ts j (max j ts.length) (Nat.le_max_left _ _) (Nat.le_max_right _ _))
 have HSm := Yq hS
 unfold R3 at HNm HH
 unfold RV3 at HNu
 unfold R2 at HW
 have Hfew := Yq hS.few
 have hle0 := Sy.head_le ts i
 obtain ⟨m, hm0⟩ : ∃ m, m = ts.length := ⟨_, rfl⟩
 have HM := Yq hm0.symm
 rw [← hm0] at HI HSe HNm HNu HW HH Honl Hfew hR ⊢
 generalize Sy.head ts i = A at *
 obtain ⟨x, j0, s0⟩ := A
 dsimp only at HH hle0 hR
 have HR : Hid (Sy.EnmL ts x R (m + 2) [] j0 s0) := Yq (by
  unfold Sy.EnmL
  by_cases c : s0.2 = 0
  ·rw [if_pos c, hR, if_neg (by simpa using c)]
  ·rw [if_neg c, hR, if_pos (by simpa using c)])
 have hbe := enm_build8
 have hbv := val_build8
 have hbs := stp_build0
 have HO := Own.nil w
 clear hm0 hR h hS
 go_enter Tryz.func62, Tryz.ntmps62
 go_upto_region 1 with (first
  | (refine wpList_alloc_own rfl 67 rfl zEn zeroRE HO ?_; clear HO; intro w1 g1 HO)
  | (refine wpList_alloc_own rfl 100 rfl zSt zeroStp HO ?_; clear HO; intro w1 g2 HO)
  | fail)
 go_upto_region 2 with (first
  | (go_at_call 87; (refine (HH.out _ HO.below).mono ?_); rintro e w3 ⟨rfl, hb⟩; replace HO := HO.call hb; clear hb)
  | (refine wpList_alloc_own rfl 95 rfl zT zeroRTk HO ?_; clear HO; intro w1 gT HO)
  | (refine wpList_alloc_own rfl 100 rfl zSt zeroStp HO ?_; clear HO; intro w1 gS HO)
  | (refine wpList_store_own 1 rfl 95 _ _ rfl _ 0 (tC x) rfl rfl HO rfl infoRTk (Nat.le_refl _) (one_tC _) rfl ?_; clear HO; intro w6 HO)
  | (refine wpList_store_own 0 rfl 100 _ _ rfl _ 0 (stC s0) rfl rfl HO rfl infoStp (Nat.le_refl _) (one_stC _) rfl ?_; clear HO; intro w6 HO)
  | fail)
 have e1 : w6.cell? ⟨gT, 1, none⟩ = some (.string (toB x.text)) := (HO.at 1 rfl).cell (o := 1) rfl
 have e3 : w6.cell? ⟨gT, 3, none⟩ = some (.int .i64 x.line) := (HO.at 1 rfl).cell (o := 3) rfl
 have e4 : w6.cell? ⟨gT, 4, none⟩ = some (.int .i64 x.col) := (HO.at 1 rfl).cell (o := 4) rfl
 have hone : (Value.slice none 0 0).oneCell' = true := rfl
 go_wp2_with (first
  | (refine wpList_alloc_own rfl 67 rfl zEn zeroRE HO ?_; clear HO; intro w1 gE HO)
  | (refine wpList_store_own 0 rfl 67 _ _ rfl _ 0 (eL x.text (.slice none 0 0) x.line x.col) rfl rfl HO rfl infoRE (Nat.le_refl _) (one_eL hone) rfl ?_; clear HO; intro w9 HO)
  | fail)
 have HO1 := Yq (OwnR.start HO [rowOf 114 4 vC (.slice none 0 0) []] (fun r hr => by rw [List.mem_singleton.1 hr]; exact ⟨rfl, rfl, rfl⟩))
 clear HO e1 e3 e4 hone
 go_simp
 go_loopg [1] (m + 2) (fun fu av wr => ∃ (l : List Sx.Val) (j : Nat) (s : Sy.Stop) (u : Value), av = .int .i64 j ∧ Hid (OwnR w [(gE, eL x.text u x.line x.col), (gS, stC s), (gT, tC x), (g2, zSt), (g1, zEn)] [rowOf 114 4 vC u l] (fun _ => True) wr) ∧ Hid (Sy.EnmL ts x R fu l j s) ∧ (s.2 = 0 → m + 2 ≤ fu + j ∧ j ≤ 950000 ∧ 1 ≤ fu) ∧ l.length + fu ≤ m + 2)
 case atStart => exact ⟨[], j0, s0, _, rfl, HO1, HR, (fun _ => by omega), by simp⟩
 case round =>
  obtain ⟨l, j, s, u, rfl, HO, HR, hb, hlf⟩ := hrel
  replace HO := HO.out
  have hone : u.oneCell' = true := own_one (HO.rows.own (rowOf 114 4 vC u l) (by simp))
  by_cases hs0 : s.2 = 0
  ·have e1 : wr.cell? ⟨gS, 1, none⟩ = some (.int .i64 0) := ((HO.own.at 1 rfl).cell (o := 1) rfl).trans (by rw [show ((s.2 : Nat) : Int) = 0 by omega])
   obtain ⟨hb1, hb2, hb3⟩ := hb hs0
   obtain ⟨fu, rfl⟩ : ∃ n, gk = n + 1 := ⟨gk - 1, by omega⟩
   have HS1 := Yq (fun w0 hb => HSe.out j w0 hb (by omega))
   have hol := Honl.out j
   have hog := Sy.onAt_ge ts j
   have Hp : Hid (Sy.onAt ts j = Sy.onAt ts j) := Yq rfl
   obtain ⟨p, hp⟩ : ∃ p, p = Sy.onAt ts j := ⟨_, rfl⟩
   rw [← hp] at HS1 hol hog
   replace Hp : Hid (Sy.onAt ts j = p) := Yq hp.symm
   clear hp hb
   have hpl : p ≤ 955000 := by have := Hfew.out; omega
   have HI5 := Yq (fun w0 hb => HI.out p 4 [125] w0 hb)
   cases hc : Sy.isAt ts p 4 [125]
   ·rw [hc] at HI5
    have HN1 := Yq (fun w0 hb => HNm.out p w0 hb (by omega))
    have hle1 := Sy.name_le ts p
    have HV0 : Hid (Sy.valueR ts p = Sy.valueR ts p) := Yq rfl
    obtain ⟨V0, hV0⟩ : ∃ V0, V0 = Sy.valueR ts p := ⟨_, rfl⟩
    have hV1 := hV0.symm
    unfold Sy.valueR at hV0
    generalize Sy.name ts p = A at *
    obtain ⟨y, q, s1⟩ := A
    dsimp only at HN1 hle1 hV0
    have HV : Hid (Sy.valueR ts p = _) := Yq (hV1.trans hV0)
    clear HV0 hV0 hV1
    go_upto_region 11 with (first
   | (go_at_call 82; (refine (HS1.out _ HO.below).mono ?_); rintro e w3 ⟨rfl, rfl⟩)
   | (go_at_call 59; (refine (HI5.out _ HO.below).mono ?_); rintro e w3 ⟨rfl, rfl⟩)
   | (refine wpList_alloc_ownR rfl 95 rfl zT zeroRTk HO ?_; clear HO; intro w1 gN HO)
   | (go_at_call 81; (refine (HN1.out _ HO.below).mono ?_); rintro e w3 ⟨rfl, hb⟩; replace HO := HO.call hb; clear hb)
   | (refine wpList_store_ownR 0 rfl 95 _ _ rfl _ 0 (tC y) rfl rfl HO rfl infoRTk (Nat.le_refl _) (one_tC _) rfl ?_; clear HO; intro w5 HO)
   | (refine wpList_store_ownR 2 rfl 100 _ _ rfl _ 0 (stC s1) rfl rfl HO rfl infoStp (Nat.le_refl _) (one_stC _) rfl ?_; clear HO; intro w6 HO)
   | fail)
    by_cases h0 : s1.2 = 0
    ·have e1 : w6.cell? ⟨_, 1, none⟩ = some (.int .i64 0) := ((HO.own.at 2 rfl).cell (o := 1) rfl).trans (by rw [show ((s1.2 : Nat) : Int) = 0 by omega])
     have HW2 := Yq (fun g w0 hb hx => HW.out q [61] g w0 hb hx (by decide) (by omega))
     have hle2 := Sy.want_le ts [[61]] q
     simp only [List.length_cons, List.length_nil] at hle2
     have HV8 := Yq (HV.out.trans (if_neg (by simpa using h0)))
     clear HV
     unfold Sy.skipAt at HV8
     generalize Sy.want ts q [[61]] = B at *
     obtain ⟨k, s2⟩ := B
     dsimp only at HW2 hle2 HV8
     go_upto_region 14 with (first
      | (refine wpList_str1_ownR rfl _ rfl HO ?_; clear HO; intro w7 g7 HO)
      | (go_at_call 57; (refine (HW2.out _ _ HO.below (HO.own.at 0 rfl)).mono ?_); rintro e w8 ⟨rfl, hb⟩; replace HO := (HO.call hb).sub (List.sublist_cons_self _ _); clear hb)
      | (refine wpList_store_ownR 2 rfl 100 _ _ rfl _ 0 (stC s2) rfl rfl HO rfl infoStp (Nat.le_refl _) (one_stC _) rfl ?_; clear HO; intro w6 HO)
      | fail)
     by_cases h0 : s2.2 = 0
     ·have e1 : w6.cell? ⟨_, 1, none⟩ = some (.int .i64 0) := ((HO.own.at 2 rfl).cell (o := 1) rfl).trans (by rw [show ((s2.2 : Nat) : Int) = 0 by omega])
      have HV1 := Yq (HV8.out.trans (if_neg (by simpa using h0)))
      clear HV8
      have n1 : w6.cell? ⟨gN, 1, none⟩ = some (.string (toB y.text)) := (HO.own.at 0 rfl).cell (o := 1) rfl
      have n3 : w6.cell? ⟨gN, 3, none⟩ = some (.int .i64 y.line) := (HO.own.at 0 rfl).cell (o := 3) rfl
      have n4 : w6.cell? ⟨gN, 4, none⟩ = some (.int .i64 y.col) := (HO.own.at 0 rfl).cell (o := 4) rfl
      go_upto_region 17 with (first
       | (refine wpList_alloc_ownR rfl 114 rfl zVl zeroRV HO ?_; clear HO; intro w1 gV HO)
       | (refine wpList_store_ownR 0 rfl 114 _ _ rfl _ 0 (vC ⟨y.text, 0, y.line, y.col⟩) rfl rfl HO rfl infoRV (Nat.le_refl _) (one_vC _) rfl ?_; clear HO; intro w9 HO)
       | fail)
      clear n1 n3 n4 e1
      have HD1 := Yq (fun w0 hb => HI.out k 4 [45] w0 hb)
      go_upto_if 84 with (go_at_call 59; (refine (HD1.out _ HO.below).mono ?_); rintro e w3 ⟨rfl, rfl⟩)
      go_cut [1, 12] from 28 to 116 (fun s1 s12 wx => wx = w3 ∧ ∃ (rr : Nat) (sg : Int), s1 = .int .i64 rr ∧ s12 = .int .i64 sg ∧ (sg = 1 ∨ sg = -1) ∧ rr ≤ k + 1 ∧ Hid (Sy.valueR ts p = if (Sy.number ts rr).2.2.2 ≠ 0 then (Sy.zVal, (Sy.number ts rr).2.1, (Sy.number ts rr).2.2) else (⟨y.text, sg * ((Sy.number ts rr).1 : Int), y.line, y.col⟩, Sy.want ts (Sy.number ts rr).2.1 [[59]])))
      case first =>
       cases hd : Sy.isAt ts k 4 [45]
       ·go_wp2_with fail
        go_meet
        refine ⟨rfl, k, 1, rfl, rfl, .inl rfl, by omega, Yq ?_⟩
        rw [HV1.out, hd]
        simp only [Bool.false_eq_true, if_false]
        rw [Int.one_mul]
       ·go_wp2_with fail
        go_meet
        refine ⟨rfl, k + 1, -1, rfl, rfl, .inr rfl, by omega, Yq ?_⟩
        rw [HV1.out, hd]
        simp only [if_true]
        rw [show ∀ x : Int, -1 * x = -x from fun x => by omega]
      case rest =>
       obtain ⟨rfl, rr, sg, rfl, rfl, hsg, hrr, HV2⟩ := hcut
       clear HV1 HD1
       have HN4 := Yq (fun w0 hb => HNu.out (rr) w0 hb (by omega))
       have hle5 := Sy.number_le ts (rr)
       have hzb : (Sy.number ts (rr)).1 ≤ 2147483648 := by
        unfold Sy.number
        split
        ·rename_i c
         have hlt := Sy.isAt_lt ts c
         rw [List.getElem?_eq_getElem hlt]
         exact HSm.out.nums _ (List.getElem_mem hlt)
        ·exact Nat.zero_le _
       generalize Sy.number ts (rr) = D at *
       obtain ⟨z, r, s3⟩ := D
       dsimp only at HN4 hle5 hzb HV2
       have hwr : IntKind.i64.wrap (sg * (z : Int)) = sg * (z : Int) := IntWalk.i64_in _ (by rcases hsg with rfl | rfl <;> omega)
       go_upto_region 23 with (first
        | (go_at_call 88; (refine (HN4.out _ HO.below).mono ?_); rintro e w3 ⟨rfl, hb⟩; replace HO := HO.call hb; clear hb)
        | (refine wpList_store_ownR 3 rfl 100 _ _ rfl _ 0 (stC s3) rfl rfl HO rfl infoStp (Nat.le_refl _) (one_stC _) rfl ?_; clear HO; intro w6 HO)
        | fail)
       by_cases h0 : s3.2 = 0
       ·have e1 : w6.cell? ⟨_, 1, none⟩ = some (.int .i64 0) := ((HO.own.at 3 rfl).cell (o := 1) rfl).trans (by rw [show ((s3.2 : Nat) : Int) = 0 by omega])
        have HW5 := Yq (fun g w0 hb hx => HW.out r [59] g w0 hb hx (by decide) (by omega))
        have hle6 := Sy.want_le ts [[59]] r
        simp only [List.length_cons, List.length_nil] at hle6
        have HV3 : Hid (Sy.valueR ts p = (⟨y.text, sg * (z : Int), y.line, y.col⟩, Sy.want ts r [[59]])) := Yq (HV2.out.trans (if_neg (by simpa using h0)))
        clear HV2
        generalize Sy.want ts r [[59]] = Ed at *
        obtain ⟨q6, s6⟩ := Ed
        dsimp only at HW5 hle6 HV3
        go_upto_region 27 with (first
         | (refine wpList_store_ownR1 (ds := vC ⟨y.text, sg * (z : Int), y.line, y.col⟩) 0 rfl 3 _ _ rfl _ 1 (.int .i64 (sg * (z : Int))) rfl rfl HO rfl infoI1 ?_ rfl rfl ?_; (· show 1 + 1 ≤ 4; decide); (clear HO; intro w9 HO))
         | (refine wpList_str1_ownR rfl _ rfl HO ?_; clear HO; intro w7 g7 HO)
         | (go_at_call 57; (refine (HW5.out _ _ HO.below (HO.own.at 0 rfl)).mono ?_); rintro e w8 ⟨rfl, hb⟩; replace HO := (HO.call hb).sub (List.sublist_cons_self _ _); clear hb)
         | (refine wpList_store_ownR 3 rfl 100 _ _ rfl _ 0 (stC s6) rfl rfl HO rfl infoStp (Nat.le_refl _) (one_stC _) rfl ?_; clear HO; intro w8 HO)
         | fail)
        have HVp : Hid (Sy.valueR ts p = (⟨y.text, sg * (z : Int), y.line, y.col⟩, q6, s6)) := HV3
        clear HV3
        have hn5 : (l.length + 1) * 40 ≤ 140737488355328 := by have := Hfew.out; omega
        have cu : w8.cell? ⟨gE, 1, none⟩ = some u := (HO.own.at 2 rfl).cell (o := 1) rfl
        obtain ⟨ua, uc, rfl, _, _, _, _⟩ := FlatV.of_ownsU (f := vC) (HO.rows.own (rowOf 114 4 vC u l) (by simp)) (Nat.le_refl _)
        have hvl := (HO.own.at 0 rfl).whole
        go_wp2_with (first
         | (refine wpList_load_seg rfl 114 _ rfl _ _ rfl _ _ hvl Tryz.underlying114 rfl infoRV ?_)
         | (refine wpList_buildSlice1 rfl 65 114 _ rfl (vC ⟨y.text, sg * (z : Int), y.line, y.col⟩) (.agg (vC ⟨y.text, sg * (z : Int), y.line, y.col⟩).toArray) rfl Tryz.underlying65 info2RV (show 0 < 4 by decide) (show 4 ≤ 1000 by decide) rfl ?_)
         | (at_builtin; refine wpList_append_ownR (L := []) (M := []) T_RV rfl _ _ rfl (vC ⟨y.text, sg * (z : Int), y.line, y.col⟩) HO rfl rfl rfl (one_vC _) hn5 ?_; (intro u9 w9 HO9 hone9; clear cu hvl))
         | (refine wpList_store_ownR1 (ds := eL x.text u9 x.line x.col) 2 rfl 65 _ _ rfl _ 1 u9 rfl rfl HO9 rfl info1RV ?_ hone9 rfl ?_; (· show 1 + 1 ≤ 4; decide); (clear HO9; intro w10 HO9)))
        have HOn : Hid (OwnR w [(gE, eL x.text u9 x.line x.col), (gS, stC s6), (gT, tC x), (g2, zSt), (g1, zEn)] [rowOf 114 4 vC u9 (l ++ [⟨y.text, sg * (z : Int), y.line, y.col⟩])] (fun _ => True) w10) := Yq (by
         rw [rowOf_snoc]
         exact HO9.sub (.cons _ (.cons _ (List.Sublist.refl _))))
        have HRn : Hid (Sy.EnmL ts x R fu (l ++ [⟨y.text, sg * (z : Int), y.line, y.col⟩]) q6 s6 ∧ (s6.2 = 0 → p < q6 ∧ p < m)) := Yq (by
         have h2 := Sy.EnmL.ok HR.out hs0
         rw [Sy.valuesL_more (by rw [Hp.out]; exact hc), Hp.out, HVp.out] at h2
         have hnx := Sy.value_next ts (i := p)
         have hlt := Sy.value_lt ts (i := p)
         rw [HVp.out] at hnx hlt
         refine ⟨?_, fun e => ⟨hnx e, by rw [← HM.out]; exact hlt e⟩⟩
         unfold Sy.EnmL
         by_cases c : s6.2 = 0
         ·rw [if_pos c, h2, if_neg (by simpa using c)]
         ·rw [if_neg c, h2, if_pos (by simpa using c)])
        have hRn2 := HRn.out.2
        have HRn1 := Yq HRn.out.1
        clear HO9 HR HVp HRn
        go_roundg fu
        case measure => omega
        case rel => exact ⟨l ++ [⟨y.text, sg * (z : Int), y.line, y.col⟩], q6, s6, u9, rfl, HOn, HRn1, (fun e => by have := hRn2 e; have := Hfew.out; omega), by simp; omega⟩
       ·obtain ⟨z, hz⟩ : ∃ z, z = (s3.2 : Int) := ⟨_, rfl⟩
        have e1 : w6.cell? ⟨_, 1, none⟩ = some (.int .i64 z) := ((HO.own.at 3 rfl).cell (o := 1) rfl).trans (by rw [hz])
        have q1 : (z == 0) = false := by rw [beq_eq_false_iff_ne]; omega
        have HRe : Hid (R.2 = (r, s3)) := Yq (badR HR.out hs0 Hp.out hc (HV2.out.trans (if_pos (by simpa using h0))) h0)
        have hnz : R.2.2.2 ≠ 0 := by rw [HRe.out]; exact h0
        clear HR hz
        go_upto_region 24 with fail
        refine wp_ret6 (by kernel_rfl) (by kernel_rfl) rfl (fun _ _ _ _ _ h => h) HO.own (.int .i64 (r)) 2 3 6 5 rfl rfl rfl rfl (by decide) (by decide) (by decide) rfl (by kernel_rfl) (.inl rfl) (by kernel_rfl) rfl (by kernel_rfl) rfl rfl (by kernel_rfl) (by kernel_rfl) (.inr rfl) (by kernel_rfl) rfl rfl (by kernel_rfl) (by kernel_rfl) Tryz.underlying67 rfl infoRE rfl (one_eL hone) Tryz.underlying100 rfl infoStp rfl (one_stC _) ?_
        intro w9 HO9
        go_wp2_with fail
        refine bodyPost_ret (v := .tuple #[.agg (eL x.text u x.line x.col).toArray, .int .i64 R.2.1, .agg (stC R.2.2).toArray]) ?_ rfl ⟨eL x.text u x.line x.col, rfl, rfl, one_eL hone, (fun e => absurd e hnz), HO9.below⟩
        exact results_ctc rfl (by kernel_rfl) (by rw [HRe.out]; kernel_rfl) (by kernel_rfl) (run_load_blk (HO9.at 6 rfl) _ Tryz.underlying67 rfl infoRE) (by rw [HRe.out]; exact run_load_blk (HO9.at 5 rfl) _ Tryz.underlying100 rfl infoStp)
     ·obtain ⟨z, hz⟩ : ∃ z, z = (s2.2 : Int) := ⟨_, rfl⟩
      have e1 : w6.cell? ⟨_, 1, none⟩ = some (.int .i64 z) := ((HO.own.at 2 rfl).cell (o := 1) rfl).trans (by rw [hz])
      have q1 : (z == 0) = false := by rw [beq_eq_false_iff_ne]; omega
      have HRe : Hid (R.2 = (k, s2)) := Yq (badR HR.out hs0 Hp.out hc (HV8.out.trans (if_pos (by simpa using h0))) h0)
      have hnz : R.2.2.2 ≠ 0 := by rw [HRe.out]; exact h0
      clear HR hz
      go_upto_region 15 with fail
      refine wp_ret6 (by kernel_rfl) (by kernel_rfl) rfl (fun _ _ _ _ _ h => h) HO.own (.int .i64 (k)) 1 2 5 4 rfl rfl rfl rfl (by decide) (by decide) (by decide) rfl (by kernel_rfl) (.inl rfl) (by kernel_rfl) rfl (by kernel_rfl) rfl rfl (by kernel_rfl) (by kernel_rfl) (.inr rfl) (by kernel_rfl) rfl rfl (by kernel_rfl) (by kernel_rfl) Tryz.underlying67 rfl infoRE rfl (one_eL hone) Tryz.underlying100 rfl infoStp rfl (one_stC _) ?_
      intro w9 HO9
      go_wp2_with fail
      refine bodyPost_ret (v := .tuple #[.agg (eL x.text u x.line x.col).toArray, .int .i64 R.2.1, .agg (stC R.2.2).toArray]) ?_ rfl ⟨eL x.text u x.line x.col, rfl, rfl, one_eL hone, (fun e => absurd e hnz), HO9.below⟩
      exact results_ctc rfl (by kernel_rfl) (by rw [HRe.out]; kernel_rfl) (by kernel_rfl) (run_load_blk (HO9.at 5 rfl) _ Tryz.underlying67 rfl infoRE) (by rw [HRe.out]; exact run_load_blk (HO9.at 4 rfl) _ Tryz.underlying100 rfl infoStp)
    ·obtain ⟨z, hz⟩ : ∃ z, z = (s1.2 : Int) := ⟨_, rfl⟩
     have e1 : w6.cell? ⟨_, 1, none⟩ = some (.int .i64 z) := ((HO.own.at 2 rfl).cell (o := 1) rfl).trans (by rw [hz])
     have q1 : (z == 0) = false := by rw [beq_eq_false_iff_ne]; omega
     have HRe : Hid (R.2 = (q, s1)) := Yq (badR HR.out hs0 Hp.out hc (HV.out.trans (if_pos (by simpa using h0))) h0)
     have hnz : R.2.2.2 ≠ 0 := by rw [HRe.out]; exact h0
     clear HR hz
     go_upto_region 12 with fail
     refine wp_ret6 (by kernel_rfl) (by kernel_rfl) rfl (fun _ _ _ _ _ h => h) HO.own (.int .i64 (q)) 1 2 5 4 rfl rfl rfl rfl (by decide) (by decide) (by decide) rfl (by kernel_rfl) (.inl rfl) (by kernel_rfl) rfl (by kernel_rfl) rfl rfl (by kernel_rfl) (by kernel_rfl) (.inr rfl) (by kernel_rfl) rfl rfl (by kernel_rfl) (by kernel_rfl) Tryz.underlying67 rfl infoRE rfl (one_eL hone) Tryz.underlying100 rfl infoStp rfl (one_stC _) ?_
     intro w9 HO9
     go_wp2_with fail
     refine bodyPost_ret (v := .tuple #[.agg (eL x.text u x.line x.col).toArray, .int .i64 R.2.1, .agg (stC R.2.2).toArray]) ?_ rfl ⟨eL x.text u x.line x.col, rfl, rfl, one_eL hone, (fun e => absurd e hnz), HO9.below⟩
     exact results_ctc rfl (by kernel_rfl) (by rw [HRe.out]; kernel_rfl) (by kernel_rfl) (run_load_blk (HO9.at 5 rfl) _ Tryz.underlying67 rfl infoRE) (by rw [HRe.out]; exact run_load_blk (HO9.at 4 rfl) _ Tryz.underlying100 rfl infoStp)
   ·rw [hc] at HI5
    have hvr := Sy.EnmL.ok HR.out hs0
    rw [Sy.valuesL_end (by rw [Hp.out]; exact hc), Hp.out] at hvr
    have cu : wr.cell? ⟨gE, 1, none⟩ = some u := (HO.own.at 0 rfl).cell (o := 1) rfl
    have hFv : FlatV vC (fragU wr w.heap.size []) u l := FlatV.of_ownsU (HO.rows.own (rowOf 114 4 vC u l) (by simp)) (Nat.le_refl _)
    obtain ⟨ua, uc, rfl, _, _, _, _⟩ := hFv
    obtain ⟨n0, hn0⟩ : ∃ n, n = l.length := ⟨_, rfl⟩
    rw [← hn0] at HO cu
    have Hn0 := Yq hn0
    have Hln := Yq hlf
    clear hlf
    cases l with
    | nil =>
     rw [if_pos rfl] at hvr
     have hlq : ((n0 : Int) == 0) = true := by rw [hn0]; rfl
     clear hn0
     have HRe : Hid (R.2 = (p, Sy.bad p)) := Yq (by rw [hvr])
     have hnz : R.2.2.2 ≠ 0 := by rw [HRe.out]; simp [Sy.bad]
     clear HR hvr
     go_upto_region 7 with (first
   | (go_at_call 82; (refine (HS1.out _ HO.below).mono ?_); rintro e w3 ⟨rfl, rfl⟩)
   | (go_at_call 59; (refine (HI5.out _ HO.below).mono ?_); rintro e w3 ⟨rfl, rfl⟩)
   | fail)
     refine wp_ret7 (by kernel_rfl) (by kernel_rfl) rfl (fun _ _ _ _ _ h => h) HO.own (.int .i64 (p)) (.int .i64 (p)) 0 4 3 rfl rfl rfl (by decide) (by decide) rfl (by kernel_rfl) (.inl rfl) (by kernel_rfl) (.inl rfl) (by kernel_rfl) rfl (fun _ => by kernel_rfl) (bad_any p) rfl rfl (by kernel_rfl) (by kernel_rfl) (.inr rfl) (by kernel_rfl) rfl rfl (by kernel_rfl) (by kernel_rfl) Tryz.underlying67 rfl infoRE rfl (one_eL hone) infoStp rfl (one_stC _) ?_
     intro w9 HO9
     go_wp2_with fail
     refine bodyPost_ret (v := .tuple #[.agg (eL x.text (.slice ua n0 uc) x.line x.col).toArray, .int .i64 R.2.1, .agg (stC R.2.2).toArray]) ?_ rfl ⟨eL x.text (.slice ua n0 uc) x.line x.col, rfl, rfl, one_eL hone, (fun e => absurd e hnz), HO9.below⟩
     exact results_ctc rfl (by kernel_rfl) (by rw [HRe.out]; kernel_rfl) (by kernel_rfl) (run_load_blk (HO9.at 4 rfl) _ Tryz.underlying67 rfl infoRE) (by rw [HRe.out]; exact run_load_blk (HO9.at 3 rfl) _ Tryz.underlying100 rfl infoStp)
    | cons y0 l0 =>
     rw [if_neg (by simp)] at hvr
     have HRe : Hid (R = (⟨x.text, y0 :: l0, x.line, x.col⟩, p + 1, Sy.none0)) := Yq hvr
     have hlq : ((n0 : Int) == 0) = false := by rw [beq_eq_false_iff_ne, hn0]; simp only [List.length_cons]; omega
     clear HR hvr hn0
     go_wp2_with (first
   | (go_at_call 82; (refine (HS1.out _ HO.below).mono ?_); rintro e w3 ⟨rfl, rfl⟩)
   | (go_at_call 59; (refine (HI5.out _ HO.below).mono ?_); rintro e w3 ⟨rfl, rfl⟩)
   | (refine wpList_load_ownR 0 rfl 67 _ rfl _ rfl HO rfl _ Tryz.underlying67 rfl infoRE ?_)
   | (refine wpList_store_ownR 4 rfl 67 _ _ rfl _ 0 (eL x.text (.slice ua n0 uc) x.line x.col) rfl rfl HO rfl infoRE (Nat.le_refl _) (one_eL hone) rfl ?_; clear HO; intro w8 HO)
   | (refine wpList_store_ownR 3 rfl 100 _ _ rfl _ 0 (stC Sy.none0) rfl rfl HO rfl infoStp (Nat.le_refl _) (one_stC _) rfl ?_; clear HO; intro w9 HO)
   | fail)
     have hFl := FlatV.of_ownsU (f := vC) (HO.rows.own (rowOf 114 4 vC (.slice ua n0 uc) (y0 :: l0)) (by simp)) (Nat.le_refl _)
     rw [HRe.out]
     refine bodyPost_ret (v := .tuple #[.agg (eL x.text (.slice ua n0 uc) x.line x.col).toArray, .int .i64 (p + 1 : Nat), .agg (stC Sy.none0).toArray]) ?_ rfl ⟨eL x.text (.slice ua n0 uc) x.line x.col, rfl, rfl, one_eL rfl, (fun _ => ⟨_, rfl, hFl, by have := Hln.out; have := Hfew.out; show (y0 :: l0).length ≤ 10000; omega⟩), HO.below⟩
     exact results_ctc rfl (by kernel_rfl) (by kernel_rfl) (by kernel_rfl) (run_load_blk (HO.own.at 4 rfl) _ Tryz.underlying67 rfl infoRE) (run_load_blk (HO.own.at 3 rfl) _ Tryz.underlying100 rfl infoStp)
  ·obtain ⟨z, hz⟩ : ∃ z, z = (s.2 : Int) := ⟨_, rfl⟩
   have h0 := hs0
   have e1 : wr.cell? ⟨gS, 1, none⟩ = some (.int .i64 z) := ((HO.own.at 1 rfl).cell (o := 1) rfl).trans (by rw [hz])
   have q1 : (z == 0) = false := by rw [beq_eq_false_iff_ne]; omega
   have HRe : Hid (R.2 = (j, s)) := Yq (Sy.EnmL.bad HR.out hs0)
   have hnz : R.2.2.2 ≠ 0 := by rw [HRe.out]; exact h0
   clear HR hz
   go_upto_region 28 with fail
   refine wp_ret6 (by kernel_rfl) (by kernel_rfl) rfl (fun _ _ _ _ _ h => h) HO.own (.int .i64 (j)) 0 1 4 3 rfl rfl rfl rfl (by decide) (by decide) (by decide) rfl (by kernel_rfl) (.inl rfl) (by kernel_rfl) rfl (by kernel_rfl) rfl rfl (by kernel_rfl) (by kernel_rfl) (.inr rfl) (by kernel_rfl) rfl rfl (by kernel_rfl) (by kernel_rfl) Tryz.underlying67 rfl infoRE rfl (one_eL hone) Tryz.underlying100 rfl infoStp rfl (one_stC _) ?_
   intro w9 HO9
   go_wp2_with fail
   refine bodyPost_ret (v := .tuple #[.agg (eL x.text u x.line x.col).toArray, .int .i64 R.2.1, .agg (stC R.2.2).toArray]) ?_ rfl ⟨eL x.text u x.line x.col, rfl, rfl, one_eL hone, (fun e => absurd e hnz), HO9.below⟩
   exact results_ctc rfl (by kernel_rfl) (by rw [HRe.out]; kernel_rfl) (by kernel_rfl) (run_load_blk (HO9.at 4 rfl) _ Tryz.underlying67 rfl infoRE) (by rw [HRe.out]; exact run_load_blk (HO9.at 3 rfl) _ Tryz.underlying100 rfl infoStp)
end Go.Proofs.YtpcfdngnmigkfaaGreatDoor
