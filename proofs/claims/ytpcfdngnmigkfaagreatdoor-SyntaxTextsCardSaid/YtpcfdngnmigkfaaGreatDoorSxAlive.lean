/- The law's first look at package syntax, walked. -/
import Derived.Test.YtpcfdngnmigkfaaGreatDoorSxText
set_option linter.unusedVariables false
set_option linter.unusedSimpArgs false
namespace Go.Proofs.YtpcfdngnmigkfaaGreatDoor
open Go.RowKit
theorem sizeFS (w : World) : (Go.sizeOf (Tryz.prog.elem 41)).run Tryz.prog w = .ok 10 w := by kernel_rfl
def exS : Lx.Bs := [115, 121, 110, 116, 97, 120, 32, 61, 32, 34, 112, 114, 111, 116, 111, 51, 34, 59, 32, 109, 101, 115, 115, 97, 103, 101, 32, 65, 32, 123, 32, 105, 110, 116, 51, 50, 32, 120, 32, 61, 32, 49, 59, 32, 125]
theorem ex_toks : ∃ q0 r0 q1 r1 q2 r2 q3 r3 q4 r4 q5 r5 q6 r6 q7 r7 q8 r8 q9 r9 q10 r10 q11 r11 q12 r12 : Nat, Lx.splitN exS (1, 1) = .ok [⟨1, [115, 121, 110, 116, 97, 120], 0, q0, r0⟩, ⟨4, [61], 0, q1, r1⟩, ⟨3, [112, 114, 111, 116, 111, 51], 0, q2, r2⟩, ⟨4, [59], 0, q3, r3⟩, ⟨1, [109, 101, 115, 115, 97, 103, 101], 0, q4, r4⟩, ⟨1, [65], 0, q5, r5⟩, ⟨4, [123], 0, q6, r6⟩, ⟨1, [105, 110, 116, 51, 50], 0, q7, r7⟩, ⟨1, [120], 0, q8, r8⟩, ⟨4, [61], 0, q9, r9⟩, ⟨2, [49], 1, q10, r10⟩, ⟨4, [59], 0, q11, r11⟩, ⟨4, [125], 0, q12, r12⟩] := by
 have g0 : Lx.gapN [115, 121, 110, 116, 97, 120, 32, 61, 32, 34, 112, 114, 111, 116, 111, 51, 34, 59, 32, 109, 101, 115, 115, 97, 103, 101, 32, 65, 32, 123, 32, 105, 110, 116, 51, 50, 32, 120, 32, 61, 32, 49, 59, 32, 125] = (0, true) := by
  exact Lx.gapN_none (by decide)
 have g1 : Lx.gapN [32, 61, 32, 34, 112, 114, 111, 116, 111, 51, 34, 59, 32, 109, 101, 115, 115, 97, 103, 101, 32, 65, 32, 123, 32, 105, 110, 116, 51, 50, 32, 120, 32, 61, 32, 49, 59, 32, 125] = (1, true) := by
  rw [Lx.gapN_some (n := 1) (by decide)]
  rw [show ([32, 61, 32, 34, 112, 114, 111, 116, 111, 51, 34, 59, 32, 109, 101, 115, 115, 97, 103, 101, 32, 65, 32, 123, 32, 105, 110, 116, 51, 50, 32, 120, 32, 61, 32, 49, 59, 32, 125] : Lx.Bs).drop 1 = [61, 32, 34, 112, 114, 111, 116, 111, 51, 34, 59, 32, 109, 101, 115, 115, 97, 103, 101, 32, 65, 32, 123, 32, 105, 110, 116, 51, 50, 32, 120, 32, 61, 32, 49, 59, 32, 125] from rfl, Lx.gapN_none (by decide)]
 have g2 : Lx.gapN [32, 34, 112, 114, 111, 116, 111, 51, 34, 59, 32, 109, 101, 115, 115, 97, 103, 101, 32, 65, 32, 123, 32, 105, 110, 116, 51, 50, 32, 120, 32, 61, 32, 49, 59, 32, 125] = (1, true) := by
  rw [Lx.gapN_some (n := 1) (by decide)]
  rw [show ([32, 34, 112, 114, 111, 116, 111, 51, 34, 59, 32, 109, 101, 115, 115, 97, 103, 101, 32, 65, 32, 123, 32, 105, 110, 116, 51, 50, 32, 120, 32, 61, 32, 49, 59, 32, 125] : Lx.Bs).drop 1 = [34, 112, 114, 111, 116, 111, 51, 34, 59, 32, 109, 101, 115, 115, 97, 103, 101, 32, 65, 32, 123, 32, 105, 110, 116, 51, 50, 32, 120, 32, 61, 32, 49, 59, 32, 125] from rfl, Lx.gapN_none (by decide)]
 have g3 : Lx.gapN [59, 32, 109, 101, 115, 115, 97, 103, 101, 32, 65, 32, 123, 32, 105, 110, 116, 51, 50, 32, 120, 32, 61, 32, 49, 59, 32, 125] = (0, true) := by
  exact Lx.gapN_none (by decide)
 have g4 : Lx.gapN [32, 109, 101, 115, 115, 97, 103, 101, 32, 65, 32, 123, 32, 105, 110, 116, 51, 50, 32, 120, 32, 61, 32, 49, 59, 32, 125] = (1, true) := by
  rw [Lx.gapN_some (n := 1) (by decide)]
  rw [show ([32, 109, 101, 115, 115, 97, 103, 101, 32, 65, 32, 123, 32, 105, 110, 116, 51, 50, 32, 120, 32, 61, 32, 49, 59, 32, 125] : Lx.Bs).drop 1 = [109, 101, 115, 115, 97, 103, 101, 32, 65, 32, 123, 32, 105, 110, 116, 51, 50, 32, 120, 32, 61, 32, 49, 59, 32, 125] from rfl, Lx.gapN_none (by decide)]
 have g5 : Lx.gapN [32, 65, 32, 123, 32, 105, 110, 116, 51, 50, 32, 120, 32, 61, 32, 49, 59, 32, 125] = (1, true) := by
  rw [Lx.gapN_some (n := 1) (by decide)]
  rw [show ([32, 65, 32, 123, 32, 105, 110, 116, 51, 50, 32, 120, 32, 61, 32, 49, 59, 32, 125] : Lx.Bs).drop 1 = [65, 32, 123, 32, 105, 110, 116, 51, 50, 32, 120, 32, 61, 32, 49, 59, 32, 125] from rfl, Lx.gapN_none (by decide)]
 have g6 : Lx.gapN [32, 123, 32, 105, 110, 116, 51, 50, 32, 120, 32, 61, 32, 49, 59, 32, 125] = (1, true) := by
  rw [Lx.gapN_some (n := 1) (by decide)]
  rw [show ([32, 123, 32, 105, 110, 116, 51, 50, 32, 120, 32, 61, 32, 49, 59, 32, 125] : Lx.Bs).drop 1 = [123, 32, 105, 110, 116, 51, 50, 32, 120, 32, 61, 32, 49, 59, 32, 125] from rfl, Lx.gapN_none (by decide)]
 have g7 : Lx.gapN [32, 105, 110, 116, 51, 50, 32, 120, 32, 61, 32, 49, 59, 32, 125] = (1, true) := by
  rw [Lx.gapN_some (n := 1) (by decide)]
  rw [show ([32, 105, 110, 116, 51, 50, 32, 120, 32, 61, 32, 49, 59, 32, 125] : Lx.Bs).drop 1 = [105, 110, 116, 51, 50, 32, 120, 32, 61, 32, 49, 59, 32, 125] from rfl, Lx.gapN_none (by decide)]
 have g8 : Lx.gapN [32, 120, 32, 61, 32, 49, 59, 32, 125] = (1, true) := by
  rw [Lx.gapN_some (n := 1) (by decide)]
  rw [show ([32, 120, 32, 61, 32, 49, 59, 32, 125] : Lx.Bs).drop 1 = [120, 32, 61, 32, 49, 59, 32, 125] from rfl, Lx.gapN_none (by decide)]
 have g9 : Lx.gapN [32, 61, 32, 49, 59, 32, 125] = (1, true) := by
  rw [Lx.gapN_some (n := 1) (by decide)]
  rw [show ([32, 61, 32, 49, 59, 32, 125] : Lx.Bs).drop 1 = [61, 32, 49, 59, 32, 125] from rfl, Lx.gapN_none (by decide)]
 have g10 : Lx.gapN [32, 49, 59, 32, 125] = (1, true) := by
  rw [Lx.gapN_some (n := 1) (by decide)]
  rw [show ([32, 49, 59, 32, 125] : Lx.Bs).drop 1 = [49, 59, 32, 125] from rfl, Lx.gapN_none (by decide)]
 have g11 : Lx.gapN [59, 32, 125] = (0, true) := by
  exact Lx.gapN_none (by decide)
 have g12 : Lx.gapN [32, 125] = (1, true) := by
  rw [Lx.gapN_some (n := 1) (by decide)]
  rw [show ([32, 125] : Lx.Bs).drop 1 = [125] from rfl, Lx.gapN_none (by decide)]
 unfold exS
 rw [Lx.splitN_tok (k := 1) (t := [115, 121, 110, 116, 97, 120]) (x := 0) (m := 6) (by rw [g0]) (by rw [g0]; rfl), g0]
 simp only [List.drop_succ_cons, List.drop_zero]
 rw [Lx.splitN_tok (k := 4) (t := [61]) (x := 0) (m := 1) (by rw [g1]) (by rw [g1]; rfl), g1]
 simp only [List.drop_succ_cons, List.drop_zero]
 rw [Lx.splitN_tok (k := 3) (t := [112, 114, 111, 116, 111, 51]) (x := 0) (m := 8) (by rw [g2]) (by rw [g2]; rfl), g2]
 simp only [List.drop_succ_cons, List.drop_zero]
 rw [Lx.splitN_tok (k := 4) (t := [59]) (x := 0) (m := 1) (by rw [g3]) (by rw [g3]; rfl), g3]
 simp only [List.drop_succ_cons, List.drop_zero]
 rw [Lx.splitN_tok (k := 1) (t := [109, 101, 115, 115, 97, 103, 101]) (x := 0) (m := 7) (by rw [g4]) (by rw [g4]; rfl), g4]
 simp only [List.drop_succ_cons, List.drop_zero]
 rw [Lx.splitN_tok (k := 1) (t := [65]) (x := 0) (m := 1) (by rw [g5]) (by rw [g5]; rfl), g5]
 simp only [List.drop_succ_cons, List.drop_zero]
 rw [Lx.splitN_tok (k := 4) (t := [123]) (x := 0) (m := 1) (by rw [g6]) (by rw [g6]; rfl), g6]
 simp only [List.drop_succ_cons, List.drop_zero]
 rw [Lx.splitN_tok (k := 1) (t := [105, 110, 116, 51, 50]) (x := 0) (m := 5) (by rw [g7]) (by rw [g7]; rfl), g7]
 simp only [List.drop_succ_cons, List.drop_zero]
 rw [Lx.splitN_tok (k := 1) (t := [120]) (x := 0) (m := 1) (by rw [g8]) (by rw [g8]; rfl), g8]
 simp only [List.drop_succ_cons, List.drop_zero]
 rw [Lx.splitN_tok (k := 4) (t := [61]) (x := 0) (m := 1) (by rw [g9]) (by rw [g9]; rfl), g9]
 simp only [List.drop_succ_cons, List.drop_zero]
 rw [Lx.splitN_tok (k := 2) (t := [49]) (x := 1) (m := 1) (by rw [g10]) (by rw [g10]; rfl), g10]
 simp only [List.drop_succ_cons, List.drop_zero]
 rw [Lx.splitN_tok (k := 4) (t := [59]) (x := 0) (m := 1) (by rw [g11]) (by rw [g11]; rfl), g11]
 simp only [List.drop_succ_cons, List.drop_zero]
 rw [Lx.splitN_tok (k := 4) (t := [125]) (x := 0) (m := 1) (by rw [g12]) (by rw [g12]; rfl), g12]
 simp only [List.drop_succ_cons, List.drop_zero]
 rw [Lx.splitN_end (by rw [show Lx.gapN [] = (0, true) from Lx.gapN_none (by decide)]) (by rw [show Lx.gapN [] = (0, true) from Lx.gapN_none (by decide)]; rfl)]
 exact ⟨_, _, _, _, _, _, _, _, _, _, _, _, _, _, _, _, _, _, _, _, _, _, _, _, _, _, rfl⟩
theorem ex_file : ∃ (f : Sx.Fld) (li co : Nat), fileOf (Lx.split exS) = (⟨[], [.mk [65] [f] [] [] [] [] [] li co], []⟩, none) ∧ f.typ = [105, 110, 116, 51, 50] := by
 obtain ⟨q0, r0, q1, r1, q2, r2, q3, r3, q4, r4, q5, r5, q6, r6, q7, r7, q8, r8, q9, r9, q10, r10, q11, r11, q12, r12, h⟩ := ex_toks
 unfold Lx.split
 rw [if_neg (by decide), h]
 exact ⟨⟨[120], [105, 110, 116, 51, 50], [], [], 1, 1, 0, 0, q8, r8⟩, q5, r5, by kernel_rfl, rfl⟩
set_option maxHeartbeats 8000000 in
set_option maxRecDepth 100000 in
theorem alive08 (A : Nat → Addr) (w : World) (hV : VarsD A w) : Calls Tryz.prog 4 #[] w fun e w' => e = .returned (.bool true) ∧ Below w.heap.size w w' := by
 have HO := Yq (text_of_any A (toB exS) w hV (by decide))
 obtain ⟨fl, li, co, hf, hty⟩ := ex_file
 rw [show (toB exS).data.toList = exS from rfl, hf] at HO
 unfold ParsePost at HO
 simp only at HO
 have Hty := Yq hty
 clear hV hf hty
 go_enter Tryz.func4, Tryz.ntmps4
 go_wp2_with fail
 refine HO.out.mono ?_
 rintro e w1 ⟨hb1, cs, rfl, v1, v2, mss, ess, rfl, ⟨p1, p2⟩, r1, r2⟩
 rw [MsgsR] at r1
 obtain ⟨xc, er, rfl, hx, r3⟩ := r1
 rw [MsgsR] at r3
 subst r3
 rw [MsgR] at hx
 obtain ⟨u1, u2, u3, u4, u5, u6, cs3, cs4, rfl, ⟨s1, _⟩, _⟩ := hx
 obtain ⟨a1, c1, rfl, _, _, _⟩ := p1.1.len
 obtain ⟨d1, e1, rfl, _, _, _⟩ := s1.1.len
 have HP := Yq (p1.1.mono (fragU_le _ _ _)); have HS := Yq (s1.1.mono (fragU_le _ _ _))
 have Hb1 := Yq hb1
 have hone2 : v2.oneCell' = true := flatC_one p2
 clear p1 p2 r2 s1 hb1
 change Hid (FlatC 9 (frag w1) (.slice a1 1 c1) _) at HP
 change Hid (FlatV fC (frag w1) (.slice d1 1 e1) [fl]) at HS
 go_upto_region 2 with (first
  | (refine wpList_alloc_lay rfl 26 rfl zFl zeroFl ?_; (intro w2 g2 hg2 hB2 hb2))
  | (refine wpList_store_all rfl 26 _ _ rfl g2 [.string (toB []), .slice a1 1 c1, v2] rfl rfl zFl hB2 infoFl rfl ?_ ?_; (· intro u hu; simp only [List.mem_cons, List.not_mem_nil, or_false] at hu; rcases hu with rfl | rfl | rfl; rfl; rfl; exact hone2); (intro w3 hB3 hgr3; have hb3 := Below.grown hb2 hgr3 hb2.size (fun _ e => by cases e; exact hg2); clear hb2 hgr3 hB2)))
 obtain ⟨b0, o0, hl0, hidx0, hcell0⟩ := FlatC.at (n := 1) (cap := c1) (a := a1) (HP.out.mono (below_le hb3)) (by decide) (i := 0) (show 0 < 1 by decide) Tryz.underlying23 sizeMsS
 obtain ⟨b1, o1, hl1, hidx1, hcell1⟩ := FlatV.at (n := 1) (cap := e1) (a := d1) (HS.out.mono (below_le hb3)) fC_len (by decide) (i := 0) (show 0 < 1 by decide) Tryz.underlying41 sizeFS
 rw [show ((0 : Nat) : Int) = 0 from rfl] at hidx0 hidx1
 have x1 : w3.cell? ⟨g2, 1, none⟩ = some (.slice a1 1 c1) := hB3.cell (o := 1) rfl
 have y0 := hcell0 0 _ rfl
 have y1 := hcell0 1 _ rfl
 have z1 := hcell1 1 _ rfl
 rw [Nat.add_zero] at y0
 have hq : (toB fl.typ).toList = [105, 110, 116, 51, 50] := by rw [Lib.toList_data, toB_list]; exact Hty.out
 have hq2 : (toB [65]).toList = [65] := by rw [Lib.toList_data, toB_list]
 simp only [List.getElem_cons_zero] at y0 y1 z1
 have HW3 : Hid (Below w.heap.size w w3) := Yq (Hb1.out.trans (hb3.mono Hb1.out.size))
 clear hb3 hB3 hg2 hcell0 hcell1
 go_wp2_with fail
 go_ret
 exact ⟨rfl, HW3.out⟩
end Go.Proofs.YtpcfdngnmigkfaaGreatDoor
