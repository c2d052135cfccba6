/- The reference redlineref08, walked: rest. The reference redlineref08, walked: field. The reference redlineref08, walked: mapped. -/
import Derived.Test.YtpcfdngnmigkfaaGreatDoorRyOpt
set_option linter.unusedVariables false
set_option linter.unusedSimpArgs false
namespace Go.Proofs.YtpcfdngnmigkfaaGreatDoor
open Go.RowKit
theorem fRyRestA12_67 {P : Program} {M : Region.Mode} {O : Array Oper} {Q : Exit → Act → World → Prop} {Y Z : World → Prop} {f F : Nat} {a b c e g i j k l m n o : Bool} {p q r s t u v x y z a0 a1 a2 a3 a4 a5 a6 a7 a8 a9 aA aB aC aD aE aF aG aH aI aJ aK aL aM aN aO aP aQ aR aS aT aU aV aW aX aY aZ b0 b1 b2 b3 b4 b5 b6 b7 b8 b9 bA bB bC bD bE bF bG bH bI bJ bK : Value} {d} {w : World} (h : wpAnyG P M O Q Y Z f F #[a,b,c,e,g,i,j,k,l,m,n,o] ⟨#[p,q,r,s,t,u,v,x,y,z,a0,a1,a2,a3,a4,a5,a6,a7,a8,a9,aA,aB,aC,aD,aE,aF,aG,aH,aI,aJ,aK,aL,aM,aN,aO,aP,aQ,aR,aS,aT,aU,aV,aW,aX,aY,aZ,b0,b1,b2,b3,b4,b5,b6,b7,b8,b9,bA,bB,bC,bD,bE,bF,bG,bH,bI,bJ,bK],d⟩ w) : wpAnyG P M O Q Y Z f F #[a,b,c,e,g,i,j,k,l,m,n,o] ⟨#[p,q,r,s,t,u,v,x,y,z,a0,a1,a2,a3,a4,a5,a6,a7,a8,a9,aA,aB,aC,aD,aE,aF,aG,aH,aI,aJ,aK,aL,aM,aN,aO,aP,aQ,aR,aS,aT,aU,aV,aW,aX,aY,aZ,b0,b1,b2,b3,b4,b5,b6,b7,b8,b9,bA,bB,bC,bD,bE,bF,bG,bH,bI,bJ,bK],d⟩ w := h
set_option maxHeartbeats 8000000 in
set_option maxRecDepth 100000 in
theorem rrest_any (v : Value) (ts : List Lx.Tok) (hS : Small ts) (f : Sx.Fld) (i : Nat) (w : World) (h : FlatV tC (frag w) v ts) (hi : i ≤ 940000) :
  Calls Tryz.prog 100 #[v, .agg (fC f).toArray, .int .i64 i] w (R3 w (fC (Sy.rest ts f i).1) (Sy.rest ts f i).2.1 (Sy.rest ts f i).2.2) := by
 obtain ⟨ad, cap, rfl, _, _, _⟩ := h.len
 obtain ⟨R, hR⟩ : ∃ R, R = Sy.rest ts f i := ⟨_, rfl⟩
 rw [← hR]
 unfold Sy.rest at hR
 have HNm := Yq (fun j w0 (hb : Below w.heap.size w w0) (hj : j ≤ 1000000) => rname_any (.slice ad ts.length cap) ts j w0 (h.mono (below_le hb)) hj)
 have HNu := Yq (fun j w0 (hb : Below w.heap.size w w0) (hj : j ≤ 1000000) => rnumb_any (.slice ad ts.length cap) ts j w0 (h.mono (below_le hb)) hj)
 have HW := Yq (fun j t g w0 (hb : Below w.heap.size w w0) hx hne hj => want1_any (.slice ad ts.length cap) ts j t g w0 (h.mono (below_le hb)) hx hne hj)
 have HOp := Yq (fun f j w0 (hb : Below w.heap.size w w0) (hj : j ≤ 950000) => roptions_any (.slice ad ts.length cap) ts hS f j w0 (h.mono (below_le hb)) hj)
 unfold R3 at HOp
 unfold R3 at HNm
 unfold RV3 at HNu
 unfold R2 at HW
 have Hfew := Yq hS.few
 have HO := Own.nil w
 obtain ⟨m, hm0⟩ : ∃ m, m = ts.length := ⟨_, rfl⟩
 have HM := Yq hm0.symm
 rw [← hm0] at HNm HNu HW Hfew HOp ⊢
 have HR := Yq hR
 clear hm0 hR h hS
 have HN1 := Yq (fun w0 hb => HNm.out (i) w0 hb (by omega))
 have hle := Sy.name_le ts (i)
 generalize Sy.name ts (i) = A at *
 obtain ⟨x, j, s⟩ := A
 dsimp only at HN1 hle HR
 go_enter Tryz.func100, Tryz.ntmps100
 go_upto_region 1 with (first
  | (refine wpList_box_own rfl 110 _ rfl (fC f) rfl HO ?_; clear HO; intro w1 gF HO)
  | (refine wpList_alloc_own rfl 110 rfl zF zeroF8 HO ?_; clear HO; intro w1 g1 HO)
  | (refine wpList_alloc_own rfl 100 rfl zSt zeroStp HO ?_; clear HO; intro w1 g2 HO)
  | fail)
 go_upto_region 2 with (first
  | (go_at_call 81; (refine (HN1.out _ HO.below).mono ?_); rintro e w3 ⟨rfl, hb⟩; replace HO := HO.call hb; clear hb)
  | (refine wpList_alloc_own rfl 95 rfl zT zeroRTk HO ?_; clear HO; intro w1 gT HO)
  | (refine wpList_alloc_own rfl 100 rfl zSt zeroStp HO ?_; clear HO; intro w1 gS HO)
  | (refine wpList_store_own 1 rfl 95 _ _ rfl _ 0 (tC x) rfl rfl HO rfl infoRTk (Nat.le_refl _) (one_tC _) rfl ?_; clear HO; intro w6 HO)
  | (refine wpList_store_own 0 rfl 100 _ _ rfl _ 0 (stC s) rfl rfl HO rfl infoStp (Nat.le_refl _) (one_stC _) rfl ?_; clear HO; intro w6 HO)
  | fail)
 by_cases h0 : s.2 = 0
 ·have e1 : w6.cell? ⟨_, 1, none⟩ = some (.int .i64 0) := ((HO.at 0 rfl).cell (o := 1) rfl).trans (by rw [show ((s.2 : Nat) : Int) = 0 by omega])
  replace HR := Yq (HR.out.trans (if_neg (by simpa using h0)))
  have HOd := Yq HO.drew
  clear HO
  have hT := HOd.out.at 1 rfl
  go_upto_region 4 with fail
  refine wp_region_G 11 (fun _ => True) (fun w' => Blk w' gT (tC x)) (by kernel_rfl) trivial hT (fun _ => ?_)
  refine fRyRestA12_67 ?_
  refine wpAnyG_take (i := 0) (v := .pointer (some ⟨gT, 1, none⟩)) rfl (by kernel_rfl) (fun _ _ _ h => h) (.inl ⟨by rfl, fun w hw => by go_simp⟩) (InvG.mk trivial hT) ?_
  refine fRyRestA12_67 ?_
  refine wpAnyG_take (i := 1) (v := .string (toB x.text)) rfl (by kernel_rfl) (fun _ _ _ h => h) (.inl ⟨by rfl, fun w hw => by have c0 := hw.2.cell (o := 1) rfl; clear hw; go_simp⟩) (InvG.mk trivial hT) ?_
  refine fRyRestA12_67 ?_
  refine wpAnyG_take (i := 2) (v := .pointer (some ⟨gT, 3, none⟩)) rfl (by kernel_rfl) (fun _ _ _ h => h) (.inl ⟨by rfl, fun w hw => by go_simp⟩) (InvG.mk trivial hT) ?_
  refine fRyRestA12_67 ?_
  refine wpAnyG_take (i := 3) (v := .int .i64 x.line) rfl (by kernel_rfl) (fun _ _ _ h => h) (.inl ⟨by rfl, fun w hw => by have c0 := hw.2.cell (o := 3) rfl; clear hw; go_simp⟩) (InvG.mk trivial hT) ?_
  refine fRyRestA12_67 ?_
  refine wpAnyG_take (i := 4) (v := .pointer (some ⟨gT, 4, none⟩)) rfl (by kernel_rfl) (fun _ _ _ h => h) (.inl ⟨by rfl, fun w hw => by go_simp⟩) (InvG.mk trivial hT) ?_
  refine fRyRestA12_67 ?_
  refine wpAnyG_take (i := 5) (v := .int .i64 x.col) rfl (by kernel_rfl) (fun _ _ _ h => h) (.inl ⟨by rfl, fun w hw => by have c0 := hw.2.cell (o := 4) rfl; clear hw; go_simp⟩) (InvG.mk trivial hT) ?_
  refine fRyRestA12_67 ?_
  refine wpAnyG_take (i := 6) (v := .pointer (some ⟨gF, 0, none⟩)) rfl (by kernel_rfl) (fun _ _ _ h => h) (.inl ⟨by rfl, fun w hw => by go_simp⟩) (InvG.mk trivial hT) ?_
  refine fRyRestA12_67 ?_
  refine wpAnyG_ready (rs := [7]) (by kernel_rfl) (by simp) ?_
  refine AllReadyG.plain rfl rfl (fun K hK => ?_) AllReadyG.nil
  refine wp_store_own' (ds := fC { f with name := x.text }) 4 9 _ _ rfl gF 0 (.string (toB x.text)) [.string (toB x.text)] (by kernel_rfl) (by kernel_rfl) rfl HOd.out rfl infoS1 (show 0 + 1 ≤ 10 by decide) (fun u hu => by rw [List.mem_singleton.1 hu]; rfl) rfl ?_
  intro wa HO1
  refine hK.out _ _ (InvG.mk trivial (HO1.at 1 rfl)) (fun _ => ?_)
  clear hK
  refine fRyRestA12_67 ?_
  refine wpAnyG_take (i := 8) (v := .pointer (some ⟨gF, 8, none⟩)) rfl (by kernel_rfl) (fun _ _ _ h => h) (.inl ⟨by rfl, fun w hw => by go_simp⟩) (InvG.mk trivial (HO1.at 1 rfl)) ?_
  refine fRyRestA12_67 ?_
  refine wpAnyG_ready (rs := [9]) (by kernel_rfl) (by simp) ?_
  refine AllReadyG.plain rfl rfl (fun K hK => ?_) AllReadyG.nil
  refine wp_store_own' (ds := fC { f with name := x.text, line := x.line }) 4 3 _ _ rfl gF 8 (.int .i64 x.line) [.int .i64 x.line] (by kernel_rfl) (by kernel_rfl) rfl HO1 rfl infoI1 (show 8 + 1 ≤ 10 by decide) (fun u hu => by rw [List.mem_singleton.1 hu]; rfl) rfl ?_
  intro wb HO2
  refine hK.out _ _ (InvG.mk trivial (HO2.at 1 rfl)) (fun _ => ?_)
  clear hK
  refine fRyRestA12_67 ?_
  refine wpAnyG_take (i := 10) (v := .pointer (some ⟨gF, 9, none⟩)) rfl (by kernel_rfl) (fun _ _ _ h => h) (.inl ⟨by rfl, fun w hw => by go_simp⟩) (InvG.mk trivial (HO2.at 1 rfl)) ?_
  refine fRyRestA12_67 ?_
  refine wpAnyG_ready (rs := [11]) (by kernel_rfl) (by simp) ?_
  refine AllReadyG.plain rfl rfl (fun K hK => ?_) AllReadyG.nil
  refine wp_store_own' (ds := fC { f with name := x.text, line := x.line, col := x.col }) 4 3 _ _ rfl gF 9 (.int .i64 x.col) [.int .i64 x.col] (by kernel_rfl) (by kernel_rfl) rfl HO2 rfl infoI1 (show 9 + 1 ≤ 10 by decide) (fun u hu => by rw [List.mem_singleton.1 hu]; rfl) rfl ?_
  intro wc HO3
  refine hK.out _ _ (InvG.past trivial (by kernel_rfl)) (fun _ => ?_)
  clear hK
  refine fRyRestA12_67 ?_
  refine wpAnyG_done (by kernel_rfl) ?_ _
  clear hT HOd HO1 HO2
  have HO := HO3
  clear HO3
  have HW1 := Yq (fun g w0 hb hx => HW.out (j) [61] g w0 hb hx (by decide) (by omega))
  have hle := Sy.want_le ts [[61]] (j)
  generalize Sy.want ts (j) [[61]] = A at *
  obtain ⟨k, s2⟩ := A
  dsimp only at HW1 hle HR
  simp only [List.length_cons, List.length_nil] at hle
  go_upto_region 6 with (first
   | (refine wpList_str1_own rfl _ rfl HO ?_; clear HO; intro w7 g7 HO)
   | (go_at_call 57; (refine (HW1.out _ _ HO.below (HO.at 0 rfl)).mono ?_); rintro e w8 ⟨rfl, hb⟩; replace HO := (HO.call hb).sub (List.sublist_cons_self _ _); clear hb)
   | (refine wpList_store_own 0 rfl 100 _ _ rfl _ 0 (stC s2) rfl rfl HO rfl infoStp (Nat.le_refl _) (one_stC _) rfl ?_; clear HO; intro w6 HO)
   | fail)
  by_cases h0 : s2.2 = 0
  ·have e1 : w6.cell? ⟨_, 1, none⟩ = some (.int .i64 0) := ((HO.at 0 rfl).cell (o := 1) rfl).trans (by rw [show ((s2.2 : Nat) : Int) = 0 by omega])
   replace HR := Yq (HR.out.trans (if_neg (by simpa using h0)))
   have HN2 := Yq (fun w0 hb => HNu.out (k) w0 hb (by omega))
   have hle := Sy.number_le ts (k)
   generalize Sy.number ts (k) = A at *
   obtain ⟨n, p, s3⟩ := A
   dsimp only at HN2 hle HR
   go_upto_region 9 with (first
    | (go_at_call 88; (refine (HN2.out _ HO.below).mono ?_); rintro e w3 ⟨rfl, hb⟩; replace HO := HO.call hb; clear hb)
    | (refine wpList_store_own1 (ds := fC { f with name := x.text, line := x.line, col := x.col, number := n }) 4 rfl 3 _ _ rfl _ 5 (.int .i64 n) rfl rfl HO rfl infoI1 ?_ rfl rfl ?_; (· show 5 + 1 ≤ 10; decide); (clear HO; intro w9 HO))
    | (refine wpList_store_own 0 rfl 100 _ _ rfl _ 0 (stC s3) rfl rfl HO rfl infoStp (Nat.le_refl _) (one_stC _) rfl ?_; clear HO; intro w6 HO)
    | fail)
   by_cases h0 : s3.2 = 0
   ·have e1 : w6.cell? ⟨_, 1, none⟩ = some (.int .i64 0) := ((HO.at 0 rfl).cell (o := 1) rfl).trans (by rw [show ((s3.2 : Nat) : Int) = 0 by omega])
    replace HR := Yq (HR.out.trans (if_neg (by simpa using h0)))
    have HO1 := Yq (fun w0 hb => HOp.out ({ f with name := x.text, line := x.line, col := x.col, number := n }) (p) w0 hb (by omega))
    generalize Sy.options ts { f with name := x.text, line := x.line, col := x.col, number := n } p = Z at *
    obtain ⟨y, q, s9⟩ := Z
    dsimp only at HO1 HR
    have HRe : Hid (R = (y, q, s9)) := Yq HR.out
    clear HR
    go_wp2_with (first
     | (refine wpList_load_own 4 rfl 110 _ rfl _ rfl HO rfl _ Tryz.underlying110 rfl infoF8 ?_)
     | (go_at_call 111; (refine (HO1.out _ HO.below).mono ?_); rintro e w3 ⟨rfl, hb⟩; replace HO := HO.call hb; clear hb)
     | (refine wpList_store_own 3 rfl 110 _ _ rfl _ 0 (fC y) rfl rfl HO rfl infoF8 (Nat.le_refl _) (one_fC _) rfl ?_; clear HO; intro w6 HO)
     | (refine wpList_store_own 2 rfl 100 _ _ rfl _ 0 (stC s9) rfl rfl HO rfl infoStp (Nat.le_refl _) (one_stC _) rfl ?_; clear HO; intro w6 HO)
     | fail)
    rw [HRe.out]
    refine bodyPost_ret (v := .tuple #[.agg (fC y).toArray, .int .i64 q, .agg (stC s9).toArray]) ?_ rfl ⟨rfl, HO.below⟩
    exact results_ctc rfl (by kernel_rfl) (by kernel_rfl) (by kernel_rfl) (run_load_blk (HO.at 3 rfl) _ Tryz.underlying110 rfl infoF8) (run_load_blk (HO.at 2 rfl) _ Tryz.underlying100 rfl infoStp)
   ·obtain ⟨z, hz⟩ : ∃ z, z = (s3.2 : Int) := ⟨_, rfl⟩
    have e1 : w6.cell? ⟨_, 1, none⟩ = some (.int .i64 z) := ((HO.at 0 rfl).cell (o := 1) rfl).trans (by rw [hz])
    have q1 : (z == 0) = false := by rw [beq_eq_false_iff_ne]; omega
    have HRe : Hid (R = ({ f with name := x.text, line := x.line, col := x.col, number := n }, p, s3)) := Yq (HR.out.trans (if_pos (by simpa using h0)))
    clear HR hle hz
    go_upto_region 10 with fail
    refine wp_ret6 (by kernel_rfl) (by kernel_rfl) rfl (fun _ _ _ _ _ h => h) HO (.int .i64 (p)) 4 0 3 2 rfl rfl rfl rfl (by decide) (by decide) (by decide) rfl (by kernel_rfl) (.inl rfl) (by kernel_rfl) rfl (by kernel_rfl) rfl rfl (by kernel_rfl) (by kernel_rfl) (.inr rfl) (by kernel_rfl) rfl rfl (by kernel_rfl) (by kernel_rfl) Tryz.underlying110 rfl infoF8 rfl (one_fC _) Tryz.underlying100 rfl infoStp rfl (one_stC _) ?_
    intro w9 HO9
    go_wp2_with fail
    rw [HRe.out]
    refine bodyPost_ret (v := .tuple #[.agg (fC ({ f with name := x.text, line := x.line, col := x.col, number := n })).toArray, .int .i64 (p), .agg (stC s3).toArray]) ?_ rfl ⟨rfl, HO9.below⟩
    exact results_ctc rfl (by kernel_rfl) (by kernel_rfl) (by kernel_rfl) (run_load_blk (HO9.at 3 rfl) _ Tryz.underlying110 rfl infoF8) (run_load_blk (HO9.at 2 rfl) _ Tryz.underlying100 rfl infoStp)
  ·obtain ⟨z, hz⟩ : ∃ z, z = (s2.2 : Int) := ⟨_, rfl⟩
   have e1 : w6.cell? ⟨_, 1, none⟩ = some (.int .i64 z) := ((HO.at 0 rfl).cell (o := 1) rfl).trans (by rw [hz])
   have q1 : (z == 0) = false := by rw [beq_eq_false_iff_ne]; omega
   have HRe : Hid (R = ({ f with name := x.text, line := x.line, col := x.col }, k, s2)) := Yq (HR.out.trans (if_pos (by simpa using h0)))
   clear HR hle hz
   go_upto_region 7 with fail
   refine wp_ret6 (by kernel_rfl) (by kernel_rfl) rfl (fun _ _ _ _ _ h => h) HO (.int .i64 (k)) 4 0 3 2 rfl rfl rfl rfl (by decide) (by decide) (by decide) rfl (by kernel_rfl) (.inl rfl) (by kernel_rfl) rfl (by kernel_rfl) rfl rfl (by kernel_rfl) (by kernel_rfl) (.inr rfl) (by kernel_rfl) rfl rfl (by kernel_rfl) (by kernel_rfl) Tryz.underlying110 rfl infoF8 rfl (one_fC _) Tryz.underlying100 rfl infoStp rfl (one_stC _) ?_
   intro w9 HO9
   go_wp2_with fail
   rw [HRe.out]
   refine bodyPost_ret (v := .tuple #[.agg (fC ({ f with name := x.text, line := x.line, col := x.col })).toArray, .int .i64 (k), .agg (stC s2).toArray]) ?_ rfl ⟨rfl, HO9.below⟩
   exact results_ctc rfl (by kernel_rfl) (by kernel_rfl) (by kernel_rfl) (run_load_blk (HO9.at 3 rfl) _ Tryz.underlying110 rfl infoF8) (run_load_blk (HO9.at 2 rfl) _ Tryz.underlying100 rfl infoStp)
 ·obtain ⟨z, hz⟩ : ∃ z, z = (s.2 : Int) := ⟨_, rfl⟩
  have e1 : w6.cell? ⟨_, 1, none⟩ = some (.int .i64 z) := ((HO.at 0 rfl).cell (o := 1) rfl).trans (by rw [hz])
  have q1 : (z == 0) = false := by rw [beq_eq_false_iff_ne]; omega
  have HRe : Hid (R = (f, j, s)) := Yq (HR.out.trans (if_pos (by simpa using h0)))
  clear HR hle hz
  go_upto_region 3 with fail
  refine wp_ret6 (by kernel_rfl) (by kernel_rfl) rfl (fun _ _ _ _ _ h => h) HO (.int .i64 (j)) 4 0 3 2 rfl rfl rfl rfl (by decide) (by decide) (by decide) rfl (by kernel_rfl) (.inl rfl) (by kernel_rfl) rfl (by kernel_rfl) rfl rfl (by kernel_rfl) (by kernel_rfl) (.inr rfl) (by kernel_rfl) rfl rfl (by kernel_rfl) (by kernel_rfl) Tryz.underlying110 rfl infoF8 rfl (one_fC _) Tryz.underlying100 rfl infoStp rfl (one_stC _) ?_
  intro w9 HO9
  go_wp2_with fail
  rw [HRe.out]
  refine bodyPost_ret (v := .tuple #[.agg (fC (f)).toArray, .int .i64 (j), .agg (stC s).toArray]) ?_ rfl ⟨rfl, HO9.below⟩
  exact results_ctc rfl (by kernel_rfl) (by kernel_rfl) (by kernel_rfl) (run_load_blk (HO9.at 3 rfl) _ Tryz.underlying110 rfl infoF8) (run_load_blk (HO9.at 2 rfl) _ Tryz.underlying100 rfl infoStp)
theorem rfld_build (a b : Int) (w : World) : (Instr.build 110 #[(4, .int .i64 a), (7, .int .i64 b)]).run Tryz.prog w = .ok (.agg #[.string ⟨#[]⟩, .string ⟨#[]⟩, .string ⟨#[]⟩, .string ⟨#[]⟩, .int .i64 a, .int .i64 0, .int .i64 0, .int .i64 b, .int .i64 0, .int .i64 0]) w := by kernel_rfl
theorem rfld_build1 (a : Int) (w : World) : (Instr.build 110 #[(4, .int .i64 a)]).run Tryz.prog w = .ok (.agg #[.string ⟨#[]⟩, .string ⟨#[]⟩, .string ⟨#[]⟩, .string ⟨#[]⟩, .int .i64 a, .int .i64 0, .int .i64 0, .int .i64 0, .int .i64 0, .int .i64 0]) w := by kernel_rfl
set_option maxHeartbeats 8000000 in
set_option maxRecDepth 100000 in
theorem rfield_any (v : Value) (ts : List Lx.Tok) (hS : Small ts) (label oneof : Nat) (i : Nat) (w : World) (h : FlatV tC (frag w) v ts) (hi : i ≤ 900000) :
  Calls Tryz.prog 85 #[v, .int .i64 i, .int .i64 label, .int .i64 oneof] w (R3 w (fC (Sy.field ts i label oneof).1) (Sy.field ts i label oneof).2.1 (Sy.field ts i label oneof).2.2) := by
 obtain ⟨ad, cap, rfl, _, _, _⟩ := h.len
 obtain ⟨R, hR⟩ : ∃ R, R = Sy.field ts i label oneof := ⟨_, rfl⟩
 rw [← hR]
 unfold Sy.field at hR
 have HNm := Yq (fun j w0 (hb : Below w.heap.size w w0) (hj : j ≤ 1000000) => rname_any (.slice ad ts.length cap) ts j w0 (h.mono (below_le hb)) hj)
 have HNu := Yq (fun j w0 (hb : Below w.heap.size w w0) (hj : j ≤ 1000000) => rnumb_any (.slice ad ts.length cap) ts j w0 (h.mono (below_le hb)) hj)
 have HW := Yq (fun j t g w0 (hb : Below w.heap.size w w0) hx hne hj => want1_any (.slice ad ts.length cap) ts j t g w0 (h.mono (below_le hb)) hx hne hj)
 have HOp := Yq (fun f j w0 (hb : Below w.heap.size w w0) (hj : j ≤ 940000) => rrest_any (.slice ad ts.length cap) ts hS f j w0 (h.mono (below_le hb)) hj)
 have HDt := Yq (fun j w0 (hb : Below w.heap.size w w0) (hj : j ≤ 900000) => rdotted_any (.slice ad ts.length cap) ts hS j true w0 (h.mono (below_le hb)) hj)
 have Hdl := Yq (fun j => Sy.dotted_le ts j true (max j ts.length) (Nat.le_max_left _ _) (Nat.le_max_right _ _))
 unfold R3 at HOp
 unfold RV3 at HDt
 unfold R3 at HNm
 unfold RV3 at HNu
 unfold R2 at HW
 have Hfew := Yq hS.few
 have HO := Own.nil w
 obtain ⟨m, hm0⟩ : ∃ m, m = ts.length := ⟨_, rfl⟩
 have HM := Yq hm0.symm
 rw [← hm0] at HNm HNu HW Hfew HOp HDt ⊢
 have HR := Yq hR
 clear hm0 hR h hS
 dsimp only at HR
 have hbd := rfld_build
 have HD1 := Yq (fun w0 hb => HDt.out (i) w0 hb (by omega))
 have hle : (Sy.dotted ts (i) true).2.1 ≤ (i) + 5000 := by
  have h1 := Hdl.out (i)
  have h2 := Hfew.out
  rw [HM.out] at h1
  omega
 generalize Sy.dotted ts (i) true = A at *
 obtain ⟨t, j, s⟩ := A
 dsimp only at HD1 hle HR
 go_enter Tryz.func85, Tryz.ntmps85
 go_upto_region 2 with (first
  | (refine wpList_alloc_own rfl 110 rfl zF zeroF8 HO ?_; clear HO; intro w1 g1 HO)
  | (refine wpList_alloc_own rfl 100 rfl zSt zeroStp HO ?_; clear HO; intro w1 g2 HO)
  | (refine wpList_store_own 0 rfl 110 _ _ rfl _ 0 (fC { Sx.zFld with label := label, oneof := oneof }) rfl rfl HO rfl infoF8 (Nat.le_refl _) (one_fC _) rfl ?_; clear HO; intro w5 HO)
  | fail)
 go_upto_region 3 with (first
  | (go_at_call 60; (refine (HD1.out _ HO.below).mono ?_); rintro e w3 ⟨rfl, hb⟩; replace HO := HO.call hb; clear hb)
  | (refine wpList_alloc_own rfl 100 rfl zSt zeroStp HO ?_; clear HO; intro w1 gS HO)
  | (refine wpList_store_own 0 rfl 100 _ _ rfl _ 0 (stC s) rfl rfl HO rfl infoStp (Nat.le_refl _) (one_stC _) rfl ?_; clear HO; intro w6 HO)
  | fail)
 by_cases h0 : s.2 = 0
 ·have e1 : w6.cell? ⟨_, 1, none⟩ = some (.int .i64 0) := ((HO.at 0 rfl).cell (o := 1) rfl).trans (by rw [show ((s.2 : Nat) : Int) = 0 by omega])
  go_upto_region 6 with (first
   | (refine wpList_store_own1 (ds := fC { Sx.zFld with label := label, oneof := oneof, typ := t }) 1 rfl 9 _ _ rfl _ 1 (.string (toB t)) rfl rfl HO rfl infoS1 ?_ rfl rfl ?_; (· show 1 + 1 ≤ 10; decide); (clear HO; intro w9 HO))
   | fail)
  replace HR := Yq (HR.out.trans (if_neg (by simpa using h0)))
  have HO1 := Yq (fun w0 hb => HOp.out ({ Sx.zFld with label := label, oneof := oneof, typ := t }) (j) w0 hb (by omega))
  generalize Sy.rest ts { Sx.zFld with label := label, oneof := oneof, typ := t } j = Z at *
  obtain ⟨y, q, s9⟩ := Z
  dsimp only at HO1 HR
  have HRe : Hid (R = (y, q, s9)) := Yq HR.out
  clear HR
  go_wp2_with (first
   | (refine wpList_load_own 1 rfl 110 _ rfl _ rfl HO rfl _ Tryz.underlying110 rfl infoF8 ?_)
   | (go_at_call 100; (refine (HO1.out _ HO.below).mono ?_); rintro e w3 ⟨rfl, hb⟩; replace HO := HO.call hb; clear hb)
   | (refine wpList_store_own 3 rfl 110 _ _ rfl _ 0 (fC y) rfl rfl HO rfl infoF8 (Nat.le_refl _) (one_fC _) rfl ?_; clear HO; intro w6 HO)
   | (refine wpList_store_own 2 rfl 100 _ _ rfl _ 0 (stC s9) rfl rfl HO rfl infoStp (Nat.le_refl _) (one_stC _) rfl ?_; clear HO; intro w6 HO)
   | fail)
  rw [HRe.out]
  refine bodyPost_ret (v := .tuple #[.agg (fC y).toArray, .int .i64 q, .agg (stC s9).toArray]) ?_ rfl ⟨rfl, HO.below⟩
  exact results_ctc rfl (by kernel_rfl) (by kernel_rfl) (by kernel_rfl) (run_load_blk (HO.at 3 rfl) _ Tryz.underlying110 rfl infoF8) (run_load_blk (HO.at 2 rfl) _ Tryz.underlying100 rfl infoStp)
 ·obtain ⟨z, hz⟩ : ∃ z, z = (s.2 : Int) := ⟨_, rfl⟩
  have e1 : w6.cell? ⟨_, 1, none⟩ = some (.int .i64 z) := ((HO.at 0 rfl).cell (o := 1) rfl).trans (by rw [hz])
  have q1 : (z == 0) = false := by rw [beq_eq_false_iff_ne]; omega
  have HRe : Hid (R = ({ Sx.zFld with label := label, oneof := oneof }, j, s)) := Yq (HR.out.trans (if_pos (by simpa using h0)))
  clear HR hle hz
  go_upto_region 4 with fail
  refine wp_ret6 (by kernel_rfl) (by kernel_rfl) rfl (fun _ _ _ _ _ h => h) HO (.int .i64 (j)) 1 0 3 2 rfl rfl rfl rfl (by decide) (by decide) (by decide) rfl (by kernel_rfl) (.inl rfl) (by kernel_rfl) rfl (by kernel_rfl) rfl rfl (by kernel_rfl) (by kernel_rfl) (.inr rfl) (by kernel_rfl) rfl rfl (by kernel_rfl) (by kernel_rfl) Tryz.underlying110 rfl infoF8 rfl (one_fC _) Tryz.underlying100 rfl infoStp rfl (one_stC _) ?_
  intro w9 HO9
  go_wp2_with fail
  rw [HRe.out]
  refine bodyPost_ret (v := .tuple #[.agg (fC ({ Sx.zFld with label := label, oneof := oneof })).toArray, .int .i64 (j), .agg (stC s).toArray]) ?_ rfl ⟨rfl, HO9.below⟩
  exact results_ctc rfl (by kernel_rfl) (by kernel_rfl) (by kernel_rfl) (run_load_blk (HO9.at 3 rfl) _ Tryz.underlying110 rfl infoF8) (run_load_blk (HO9.at 2 rfl) _ Tryz.underlying100 rfl infoStp)
set_option maxHeartbeats 8000000 in
set_option maxRecDepth 100000 in
theorem rmapped_any (v : Value) (ts : List Lx.Tok) (hS : Small ts)  (i : Nat) (w : World) (h : FlatV tC (frag w) v ts) (hi : i ≤ 890000) :
  Calls Tryz.prog 86 #[v, .int .i64 i] w (R3 w (fC (Sy.mapped ts i).1) (Sy.mapped ts i).2.1 (Sy.mapped ts i).2.2) := by
 obtain ⟨ad, cap, rfl, _, _, _⟩ := h.len
 obtain ⟨R, hR⟩ : ∃ R, R = Sy.mapped ts i := ⟨_, rfl⟩
 rw [← hR]
 unfold Sy.mapped at hR
 have HNm := Yq (fun j w0 (hb : Below w.heap.size w w0) (hj : j ≤ 1000000) => rname_any (.slice ad ts.length cap) ts j w0 (h.mono (below_le hb)) hj)
 have HNu := Yq (fun j w0 (hb : Below w.heap.size w w0) (hj : j ≤ 1000000) => rnumb_any (.slice ad ts.length cap) ts j w0 (h.mono (below_le hb)) hj)
 have HW := Yq (fun j t g w0 (hb : Below w.heap.size w w0) hx hne hj => want1_any (.slice ad ts.length cap) ts j t g w0 (h.mono (below_le hb)) hx hne hj)
 have HOp := Yq (fun f j w0 (hb : Below w.heap.size w w0) (hj : j ≤ 940000) => rrest_any (.slice ad ts.length cap) ts hS f j w0 (h.mono (below_le hb)) hj)
 have HDt := Yq (fun j w0 (hb : Below w.heap.size w w0) (hj : j ≤ 900000) => rdotted_any (.slice ad ts.length cap) ts hS j true w0 (h.mono (below_le hb)) hj)
 have Hdl := Yq (fun j => Sy.dotted_le ts j true (max j ts.length) (Nat.le_max_left _ _) (Nat.le_max_right _ _))
 unfold R3 at HOp
 unfold RV3 at HDt
 unfold R3 at HNm
 unfold RV3 at HNu
 unfold R2 at HW
 have Hfew := Yq hS.few
 have HO := Own.nil w
 obtain ⟨m, hm0⟩ : ∃ m, m = ts.length := ⟨_, rfl⟩
 have HM := Yq hm0.symm
 rw [← hm0] at HNm HNu HW Hfew HOp HDt ⊢
 have HR := Yq hR
 clear hm0 hR h hS
 dsimp only at HR
 have hbd := rfld_build1
 have HW1 := Yq (fun g w0 hb hx => HW.out (i) [60] g w0 hb hx (by decide) (by omega))
 have hle := Sy.want_le ts [[60]] (i)
 generalize Sy.want ts (i) [[60]] = A at *
 obtain ⟨k1, s1⟩ := A
 dsimp only at HW1 hle HR
 simp only [List.length_cons, List.length_nil] at hle
 go_enter Tryz.func86, Tryz.ntmps86
 go_upto_region 2 with (first
  | (refine wpList_alloc_own rfl 110 rfl zF zeroF8 HO ?_; clear HO; intro w1 g1 HO)
  | (refine wpList_alloc_own rfl 100 rfl zSt zeroStp HO ?_; clear HO; intro w1 g2 HO)
  | (refine wpList_store_own 0 rfl 110 _ _ rfl _ 0 (fC { Sx.zFld with label := 4 }) rfl rfl HO rfl infoF8 (Nat.le_refl _) (one_fC _) rfl ?_; clear HO; intro w5 HO)
  | fail)
 go_upto_region 3 with (first
  | (refine wpList_str1_own rfl _ rfl HO ?_; clear HO; intro w7 g7 HO)
  | (go_at_call 57; (refine (HW1.out _ _ HO.below (HO.at 0 rfl)).mono ?_); rintro e w8 ⟨rfl, hb⟩; replace HO := (HO.call hb).sub (List.sublist_cons_self _ _); clear hb)
  | (refine wpList_alloc_own rfl 100 rfl zSt zeroStp HO ?_; clear HO; intro w1 gS HO)
  | (refine wpList_store_own 0 rfl 100 _ _ rfl _ 0 (stC s1) rfl rfl HO rfl infoStp (Nat.le_refl _) (one_stC _) rfl ?_; clear HO; intro w6 HO)
  | fail)
 by_cases h0 : s1.2 = 0
 ·have e1 : w6.cell? ⟨_, 1, none⟩ = some (.int .i64 0) := ((HO.at 0 rfl).cell (o := 1) rfl).trans (by rw [show ((s1.2 : Nat) : Int) = 0 by omega])
  replace HR := Yq (HR.out.trans (if_neg (by simpa using h0)))
  have HN2 := Yq (fun w0 hb => HNm.out (k1) w0 hb (by omega))
  have hle := Sy.name_le ts (k1)
  generalize Sy.name ts (k1) = A at *
  obtain ⟨x, j2, s2⟩ := A
  dsimp only at HN2 hle HR
  go_upto_region 6 with (first
   | (go_at_call 81; (refine (HN2.out _ HO.below).mono ?_); rintro e w3 ⟨rfl, hb⟩; replace HO := HO.call hb; clear hb)
   | (refine wpList_alloc_own rfl 95 rfl zT zeroRTk HO ?_; clear HO; intro w1 gT HO)
   | (refine wpList_store_own 0 rfl 95 _ _ rfl _ 0 (tC x) rfl rfl HO rfl infoRTk (Nat.le_refl _) (one_tC _) rfl ?_; clear HO; intro w6 HO)
   | (refine wpList_store_own 1 rfl 100 _ _ rfl _ 0 (stC s2) rfl rfl HO rfl infoStp (Nat.le_refl _) (one_stC _) rfl ?_; clear HO; intro w6 HO)
   | fail)
  by_cases h0 : s2.2 = 0
  ·have e1 : w6.cell? ⟨_, 1, none⟩ = some (.int .i64 0) := ((HO.at 1 rfl).cell (o := 1) rfl).trans (by rw [show ((s2.2 : Nat) : Int) = 0 by omega])
   replace HR := Yq (HR.out.trans (if_neg (by simpa using h0)))
   have e2 : w6.cell? ⟨_, 1, none⟩ = some (.string (toB x.text)) := (HO.at 0 rfl).cell (o := 1) rfl
   have HW2 := Yq (fun g w0 hb hx => HW.out (j2) [44] g w0 hb hx (by decide) (by omega))
   have hle := Sy.want_le ts [[44]] (j2)
   generalize Sy.want ts (j2) [[44]] = A at *
   obtain ⟨k3, s3⟩ := A
   dsimp only at HW2 hle HR
   simp only [List.length_cons, List.length_nil] at hle
   go_upto_region 9 with (first
    | (refine wpList_store_own1 (ds := fC { Sx.zFld with label := 4, mapKey := x.text }) 2 rfl 9 _ _ rfl _ 2 (.string (toB x.text)) rfl rfl HO rfl infoS1 ?_ rfl rfl ?_; (· show 2 + 1 ≤ 10; decide); (clear HO; intro w9 HO))
    | fail)
   go_upto_region 10 with (first
    | (refine wpList_str1_own rfl _ rfl HO ?_; clear HO; intro w7 g7 HO)
    | (go_at_call 57; (refine (HW2.out _ _ HO.below (HO.at 0 rfl)).mono ?_); rintro e w8 ⟨rfl, hb⟩; replace HO := (HO.call hb).sub (List.sublist_cons_self _ _); clear hb)
    | (refine wpList_store_own 1 rfl 100 _ _ rfl _ 0 (stC s3) rfl rfl HO rfl infoStp (Nat.le_refl _) (one_stC _) rfl ?_; clear HO; intro w6 HO)
    | fail)
   by_cases h0 : s3.2 = 0
   ·have e1 : w6.cell? ⟨_, 1, none⟩ = some (.int .i64 0) := ((HO.at 1 rfl).cell (o := 1) rfl).trans (by rw [show ((s3.2 : Nat) : Int) = 0 by omega])
    replace HR := Yq (HR.out.trans (if_neg (by simpa using h0)))
    have HD4 := Yq (fun w0 hb => HDt.out (k3) w0 hb (by omega))
    have hle : (Sy.dotted ts (k3) true).2.1 ≤ (k3) + 5000 := by
     have h1 := Hdl.out (k3)
     have h2 := Hfew.out
     rw [HM.out] at h1
     omega
    generalize Sy.dotted ts (k3) true = A at *
    obtain ⟨t, j4, s4⟩ := A
    dsimp only at HD4 hle HR
    go_upto_region 13 with (first
     | (go_at_call 60; (refine (HD4.out _ HO.below).mono ?_); rintro e w3 ⟨rfl, hb⟩; replace HO := HO.call hb; clear hb)
     | (refine wpList_store_own1 (ds := fC { Sx.zFld with label := 4, mapKey := x.text, typ := t }) 2 rfl 9 _ _ rfl _ 1 (.string (toB t)) rfl rfl HO rfl infoS1 ?_ rfl rfl ?_; (· show 1 + 1 ≤ 10; decide); (clear HO; intro w9 HO))
     | (refine wpList_store_own 1 rfl 100 _ _ rfl _ 0 (stC s4) rfl rfl HO rfl infoStp (Nat.le_refl _) (one_stC _) rfl ?_; clear HO; intro w6 HO)
     | fail)
    by_cases h0 : s4.2 = 0
    ·have e1 : w6.cell? ⟨_, 1, none⟩ = some (.int .i64 0) := ((HO.at 1 rfl).cell (o := 1) rfl).trans (by rw [show ((s4.2 : Nat) : Int) = 0 by omega])
     replace HR := Yq (HR.out.trans (if_neg (by simpa using h0)))
     have HW3 := Yq (fun g w0 hb hx => HW.out (j4) [62] g w0 hb hx (by decide) (by omega))
     have hle := Sy.want_le ts [[62]] (j4)
     generalize Sy.want ts (j4) [[62]] = A at *
     obtain ⟨k5, s5⟩ := A
     dsimp only at HW3 hle HR
     simp only [List.length_cons, List.length_nil] at hle
     go_upto_region 16 with (first
      | (refine wpList_str1_own rfl _ rfl HO ?_; clear HO; intro w7 g7 HO)
      | (go_at_call 57; (refine (HW3.out _ _ HO.below (HO.at 0 rfl)).mono ?_); rintro e w8 ⟨rfl, hb⟩; replace HO := (HO.call hb).sub (List.sublist_cons_self _ _); clear hb)
      | (refine wpList_store_own 1 rfl 100 _ _ rfl _ 0 (stC s5) rfl rfl HO rfl infoStp (Nat.le_refl _) (one_stC _) rfl ?_; clear HO; intro w6 HO)
      | fail)
     by_cases h0 : s5.2 = 0
     ·have e1 : w6.cell? ⟨_, 1, none⟩ = some (.int .i64 0) := ((HO.at 1 rfl).cell (o := 1) rfl).trans (by rw [show ((s5.2 : Nat) : Int) = 0 by omega])
      replace HR := Yq (HR.out.trans (if_neg (by simpa using h0)))
      have HO1 := Yq (fun w0 hb => HOp.out ({ Sx.zFld with label := 4, mapKey := x.text, typ := t }) (k5) w0 hb (by omega))
      generalize Sy.rest ts { Sx.zFld with label := 4, mapKey := x.text, typ := t } k5 = Z at *
      obtain ⟨y, q, s9⟩ := Z
      dsimp only at HO1 HR
      have HRe : Hid (R = (y, q, s9)) := Yq HR.out
      clear HR
      go_wp2_with (first
       | (refine wpList_load_own 2 rfl 110 _ rfl _ rfl HO rfl _ Tryz.underlying110 rfl infoF8 ?_)
       | (go_at_call 100; (refine (HO1.out _ HO.below).mono ?_); rintro e w3 ⟨rfl, hb⟩; replace HO := HO.call hb; clear hb)
       | (refine wpList_store_own 4 rfl 110 _ _ rfl _ 0 (fC y) rfl rfl HO rfl infoF8 (Nat.le_refl _) (one_fC _) rfl ?_; clear HO; intro w6 HO)
       | (refine wpList_store_own 3 rfl 100 _ _ rfl _ 0 (stC s9) rfl rfl HO rfl infoStp (Nat.le_refl _) (one_stC _) rfl ?_; clear HO; intro w6 HO)
       | fail)
      rw [HRe.out]
      refine bodyPost_ret (v := .tuple #[.agg (fC y).toArray, .int .i64 q, .agg (stC s9).toArray]) ?_ rfl ⟨rfl, HO.below⟩
      exact results_ctc rfl (by kernel_rfl) (by kernel_rfl) (by kernel_rfl) (run_load_blk (HO.at 4 rfl) _ Tryz.underlying110 rfl infoF8) (run_load_blk (HO.at 3 rfl) _ Tryz.underlying100 rfl infoStp)
     ·obtain ⟨z, hz⟩ : ∃ z, z = (s5.2 : Int) := ⟨_, rfl⟩
      have e1 : w6.cell? ⟨_, 1, none⟩ = some (.int .i64 z) := ((HO.at 1 rfl).cell (o := 1) rfl).trans (by rw [hz])
      have q1 : (z == 0) = false := by rw [beq_eq_false_iff_ne]; omega
      have HRe : Hid (R = ({ Sx.zFld with label := 4, mapKey := x.text, typ := t }, k5, s5)) := Yq (HR.out.trans (if_pos (by simpa using h0)))
      clear HR hle hz
      go_upto_region 17 with fail
      refine wp_ret6 (by kernel_rfl) (by kernel_rfl) rfl (fun _ _ _ _ _ h => h) HO (.int .i64 (k5)) 2 1 4 3 rfl rfl rfl rfl (by decide) (by decide) (by decide) rfl (by kernel_rfl) (.inl rfl) (by kernel_rfl) rfl (by kernel_rfl) rfl rfl (by kernel_rfl) (by kernel_rfl) (.inr rfl) (by kernel_rfl) rfl rfl (by kernel_rfl) (by kernel_rfl) Tryz.underlying110 rfl infoF8 rfl (one_fC _) Tryz.underlying100 rfl infoStp rfl (one_stC _) ?_
      intro w9 HO9
      go_wp2_with fail
      rw [HRe.out]
      refine bodyPost_ret (v := .tuple #[.agg (fC ({ Sx.zFld with label := 4, mapKey := x.text, typ := t })).toArray, .int .i64 (k5), .agg (stC s5).toArray]) ?_ rfl ⟨rfl, HO9.below⟩
      exact results_ctc rfl (by kernel_rfl) (by kernel_rfl) (by kernel_rfl) (run_load_blk (HO9.at 4 rfl) _ Tryz.underlying110 rfl infoF8) (run_load_blk (HO9.at 3 rfl) _ Tryz.underlying100 rfl infoStp)
    ·obtain ⟨z, hz⟩ : ∃ z, z = (s4.2 : Int) := ⟨_, rfl⟩
     have e1 : w6.cell? ⟨_, 1, none⟩ = some (.int .i64 z) := ((HO.at 1 rfl).cell (o := 1) rfl).trans (by rw [hz])
     have q1 : (z == 0) = false := by rw [beq_eq_false_iff_ne]; omega
     have HRe : Hid (R = ({ Sx.zFld with label := 4, mapKey := x.text, typ := t }, j4, s4)) := Yq (HR.out.trans (if_pos (by simpa using h0)))
     clear HR hle hz
     go_upto_region 14 with fail
     refine wp_ret6 (by kernel_rfl) (by kernel_rfl) rfl (fun _ _ _ _ _ h => h) HO (.int .i64 (j4)) 2 1 4 3 rfl rfl rfl rfl (by decide) (by decide) (by decide) rfl (by kernel_rfl) (.inl rfl) (by kernel_rfl) rfl (by kernel_rfl) rfl rfl (by kernel_rfl) (by kernel_rfl) (.inr rfl) (by kernel_rfl) rfl rfl (by kernel_rfl) (by kernel_rfl) Tryz.underlying110 rfl infoF8 rfl (one_fC _) Tryz.underlying100 rfl infoStp rfl (one_stC _) ?_
     intro w9 HO9
     go_wp2_with fail
     rw [HRe.out]
     refine bodyPost_ret (v := .tuple #[.agg (fC ({ Sx.zFld with label := 4, mapKey := x.text, typ := t })).toArray, .int .i64 (j4), .agg (stC s4).toArray]) ?_ rfl ⟨rfl, HO9.below⟩
     exact results_ctc rfl (by kernel_rfl) (by kernel_rfl) (by kernel_rfl) (run_load_blk (HO9.at 4 rfl) _ Tryz.underlying110 rfl infoF8) (run_load_blk (HO9.at 3 rfl) _ Tryz.underlying100 rfl infoStp)
   ·obtain ⟨z, hz⟩ : ∃ z, z = (s3.2 : Int) := ⟨_, rfl⟩
    have e1 : w6.cell? ⟨_, 1, none⟩ = some (.int .i64 z) := ((HO.at 1 rfl).cell (o := 1) rfl).trans (by rw [hz])
    have q1 : (z == 0) = false := by rw [beq_eq_false_iff_ne]; omega
    have HRe : Hid (R = ({ Sx.zFld with label := 4, mapKey := x.text }, k3, s3)) := Yq (HR.out.trans (if_pos (by simpa using h0)))
    clear HR hle hz
    go_upto_region 11 with fail
    refine wp_ret6 (by kernel_rfl) (by kernel_rfl) rfl (fun _ _ _ _ _ h => h) HO (.int .i64 (k3)) 2 1 4 3 rfl rfl rfl rfl (by decide) (by decide) (by decide) rfl (by kernel_rfl) (.inl rfl) (by kernel_rfl) rfl (by kernel_rfl) rfl rfl (by kernel_rfl) (by kernel_rfl) (.inr rfl) (by kernel_rfl) rfl rfl (by kernel_rfl) (by kernel_rfl) Tryz.underlying110 rfl infoF8 rfl (one_fC _) Tryz.underlying100 rfl infoStp rfl (one_stC _) ?_
    intro w9 HO9
    go_wp2_with fail
    rw [HRe.out]
    refine bodyPost_ret (v := .tuple #[.agg (fC ({ Sx.zFld with label := 4, mapKey := x.text })).toArray, .int .i64 (k3), .agg (stC s3).toArray]) ?_ rfl ⟨rfl, HO9.below⟩
    exact results_ctc rfl (by kernel_rfl) (by kernel_rfl) (by kernel_rfl) (run_load_blk (HO9.at 4 rfl) _ Tryz.underlying110 rfl infoF8) (run_load_blk (HO9.at 3 rfl) _ Tryz.underlying100 rfl infoStp)
  ·obtain ⟨z, hz⟩ : ∃ z, z = (s2.2 : Int) := ⟨_, rfl⟩
   have e1 : w6.cell? ⟨_, 1, none⟩ = some (.int .i64 z) := ((HO.at 1 rfl).cell (o := 1) rfl).trans (by rw [hz])
   have q1 : (z == 0) = false := by rw [beq_eq_false_iff_ne]; omega
   have HRe : Hid (R = ({ Sx.zFld with label := 4 }, j2, s2)) := Yq (HR.out.trans (if_pos (by simpa using h0)))
   clear HR hle hz
   go_upto_region 7 with fail
   refine wp_ret6 (by kernel_rfl) (by kernel_rfl) rfl (fun _ _ _ _ _ h => h) HO (.int .i64 (j2)) 2 1 4 3 rfl rfl rfl rfl (by decide) (by decide) (by decide) rfl (by kernel_rfl) (.inl rfl) (by kernel_rfl) rfl (by kernel_rfl) rfl rfl (by kernel_rfl) (by kernel_rfl) (.inr rfl) (by kernel_rfl) rfl rfl (by kernel_rfl) (by kernel_rfl) Tryz.underlying110 rfl infoF8 rfl (one_fC _) Tryz.underlying100 rfl infoStp rfl (one_stC _) ?_
   intro w9 HO9
   go_wp2_with fail
   rw [HRe.out]
   refine bodyPost_ret (v := .tuple #[.agg (fC ({ Sx.zFld with label := 4 })).toArray, .int .i64 (j2), .agg (stC s2).toArray]) ?_ rfl ⟨rfl, HO9.below⟩
   exact results_ctc rfl (by kernel_rfl) (by kernel_rfl) (by kernel_rfl) (run_load_blk (HO9.at 4 rfl) _ Tryz.underlying110 rfl infoF8) (run_load_blk (HO9.at 3 rfl) _ Tryz.underlying100 rfl infoStp)
 ·obtain ⟨z, hz⟩ : ∃ z, z = (s1.2 : Int) := ⟨_, rfl⟩
  have e1 : w6.cell? ⟨_, 1, none⟩ = some (.int .i64 z) := ((HO.at 0 rfl).cell (o := 1) rfl).trans (by rw [hz])
  have q1 : (z == 0) = false := by rw [beq_eq_false_iff_ne]; omega
  have HRe : Hid (R = ({ Sx.zFld with label := 4 }, k1, s1)) := Yq (HR.out.trans (if_pos (by simpa using h0)))
  clear HR hle hz
  go_upto_region 4 with fail
  refine wp_ret6 (by kernel_rfl) (by kernel_rfl) rfl (fun _ _ _ _ _ h => h) HO (.int .i64 (k1)) 1 0 3 2 rfl rfl rfl rfl (by decide) (by decide) (by decide) rfl (by kernel_rfl) (.inl rfl) (by kernel_rfl) rfl (by kernel_rfl) rfl rfl (by kernel_rfl) (by kernel_rfl) (.inr rfl) (by kernel_rfl) rfl rfl (by kernel_rfl) (by kernel_rfl) Tryz.underlying110 rfl infoF8 rfl (one_fC _) Tryz.underlying100 rfl infoStp rfl (one_stC _) ?_
  intro w9 HO9
  go_wp2_with fail
  rw [HRe.out]
  refine bodyPost_ret (v := .tuple #[.agg (fC ({ Sx.zFld with label := 4 })).toArray, .int .i64 (k1), .agg (stC s1).toArray]) ?_ rfl ⟨rfl, HO9.below⟩
  exact results_ctc rfl (by kernel_rfl) (by kernel_rfl) (by kernel_rfl) (run_load_blk (HO9.at 3 rfl) _ Tryz.underlying110 rfl infoF8) (run_load_blk (HO9.at 2 rfl) _ Tryz.underlying100 rfl infoStp)
end Go.Proofs.YtpcfdngnmigkfaaGreatDoor
