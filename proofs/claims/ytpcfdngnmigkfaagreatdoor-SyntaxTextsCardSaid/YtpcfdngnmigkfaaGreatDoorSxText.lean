/- Package syntax, walked: the file of a text. -/
import Derived.Test.YtpcfdngnmigkfaaGreatDoorSxParse
set_option linter.unusedVariables false
set_option linter.unusedSimpArgs false
namespace Go.Proofs.YtpcfdngnmigkfaaGreatDoor
open Go.RowKit
def fileOf : Lx.Out → Sx.Fil × Option (Nat × Nat × Nat)
 | .bad n q => (⟨[], [], []⟩, some (n, q.1, q.2))
 | .ok ts => Sx.parse ts
theorem VarsD.keep {A : Nat → Addr} {w w' : World} (h : VarsD A w) (hb : Below w.heap.size w w') : VarsD A w' :=
 ⟨h.vars.below hb, (hb.cell (p := ⟨_, _, _⟩) (World.block_lt_of_cell? w _ h.depth)).trans h.depth⟩
theorem split_whole (A : Nat → Addr) (s : ByteArray) (w : World) (hv : Vars A w) (hm : s.size ≤ maxLen) :
  Calls Tryz.prog 10 #[.string s] w (SplitPost A w (Lx.split s.data.toList)) := by
 unfold Lx.split
 rw [len_data]
 by_cases h : 4000 < s.size
 ·rw [if_pos h]; exact split_long A s w hv h hm
 ·rw [if_neg h]; exact split_any A s w hv h
theorem split_few {s : ByteArray} {ts : List Lx.Tok} (h : Lx.split s.data.toList = .ok ts) : Small ts := by
 unfold Lx.split at h
 split at h
 ·cases h
 ·exact Lx.split_small (by omega) h
set_option maxHeartbeats 8000000 in
set_option maxRecDepth 100000 in
theorem text_of_any (A : Nat → Addr) (s : ByteArray) (w : World) (hV : VarsD A w) (hm : s.size ≤ maxLen) :
  Calls Tryz.prog 5 #[.string s] w (ParsePost A w (fileOf (Lx.split s.data.toList))) := by
 have HV := Yq hV
 have HSp := Yq (fun w0 (hb : Below w.heap.size w w0) => split_whole A s w0 (hV.vars.below hb) hm)
 have HFew := Yq (fun ts (h : Lx.split s.data.toList = .ok ts) => split_few h)
 have hbd0 := fil_build0
 clear hV hm
 generalize Lx.split s.data.toList = X at *
 obtain ⟨M, hM⟩ : ∃ M, M = fileOf X := ⟨_, rfl⟩
 rw [← hM]
 have HM := Yq hM
 clear hM
 go_enter Tryz.func5, Tryz.ntmps5
 go_upto_region 1 with (first
  | (refine wpList_alloc_lay rfl 26 rfl zFl zeroFl ?_; (intro w1 gr hgr hBr hb1)))
 have HS1 := Yq (HSp.out w1 hb1)
 have Hb1 := Yq hb1; have HBr := Yq hBr; have Hgr := Yq hgr
 clear hb1 hBr hgr HSp
 cases X with
 | bad n q =>
  unfold SplitPost at HS1
  simp only at HS1
  go_wp2_with fail
  refine HS1.out.mono ?_
  rintro e w2 ⟨g, rfl, hBg, hg, hb2⟩
  have HBr2 := HBr.out.below hb2 HBr.out.lt
  have HBg := Yq hBg; have Hb2 := Yq hb2; have Hg := Yq hg
  clear hBg hg hb2
  go_wp2_with (first
   | (refine wpList_store_all rfl 26 _ _ rfl gr zFl rfl rfl zFl HBr2 infoFl rfl ?_ ?_; (· decide); (intro w3 hB3 hgr3)))
  have hW : Below w.heap.size w w3 := Below.grown (Hb1.out.trans (Hb2.out.mono Hb1.out.size)) hgr3 (Nat.le_trans Hb1.out.size Hb2.out.size) (fun k e => by cases e; exact Hgr.out)
  have hBg3 := HBg.out.grown hgr3 (fun e => by cases e; have := HBr.out.lt; have := Hg.out; omega)
  rw [HM.out]
  refine bodyPost_ret (v := .tuple #[.agg zFl.toArray, .iface 73 (.pointer (some ⟨g, 0, none⟩))]) ?_ rfl ⟨hW, g, rfl, hBg3⟩
  exact results_blk2 (p := 2) (u := 3) (ty := 26) rfl _ _ gr zFl rfl hB3 _ Tryz.underlying26 rfl infoFl
 | ok ts =>
  unfold SplitPost at HS1
  simp only at HS1
  have Hsm := Yq (HFew.out ts rfl)
  clear HFew
  go_wp2_with fail
  refine HS1.out.mono ?_
  rintro e w2 ⟨v, rfl, hF, hb2⟩
  obtain ⟨a, cap, rfl, _, _, _⟩ := hF.len
  have HP := Yq (parse_any A _ ts w2 ((HV.out.keep Hb1.out).keep hb2) Hsm.out hF)
  have HBr2 := Yq (HBr.out.below hb2 HBr.out.lt)
  have Hb2 := Yq hb2
  clear hF hb2
  unfold ParsePost at HP
  rw [show Sx.parse ts = M from HM.out.symm] at HP
  clear HM
  obtain ⟨f, er⟩ := M
  cases er with
  | none =>
   simp only at HP
   go_wp2_with fail
   refine HP.out.mono ?_
   rintro e w3 ⟨hb3, cs, rfl, hf⟩
   have HBr3 := HBr2.out.below hb3 HBr2.out.lt
   have Hb3 := Yq hb3; have Hf := Yq hf
   have Hones : Hid (∀ u ∈ cs, u.oneCell' = true) := Yq (by
    obtain ⟨v1, v2, mss, ess, rfl, ⟨q1, q2⟩, _⟩ := hf
    intro u hu; simp only [List.mem_cons, List.not_mem_nil, or_false] at hu
    rcases hu with rfl | rfl | rfl
    ·rfl
    ·exact flatC_one q1
    ·exact flatC_one q2)
   have Hlen : Hid (cs.length = 3) := Yq (by obtain ⟨v1, v2, mss, ess, rfl, _⟩ := hf; rfl)
   clear hb3 hf
   go_wp2_with (first
    | (refine wpList_store_all rfl 26 _ _ rfl gr cs rfl rfl zFl HBr3 ?_ ?_ ?_ ?_; (· rw [Hlen.out]; exact infoFl); (· exact Hlen.out); (· exact Hones.out); (intro w4 hB4 hgr4)))
   have hW : Below w.heap.size w w4 := Below.grown ((Hb1.out.trans (Hb2.out.mono Hb1.out.size)).trans (Hb3.out.mono (Nat.le_trans Hb1.out.size Hb2.out.size))) hgr4 (by have := Hb1.out.size; have := Hb2.out.size; have := Hb3.out.size; omega) (fun k e => by cases e; exact Hgr.out)
   have hfle : FLe (fragU w3 w2.heap.size []) (fragU w4 w.heap.size []) := (fragU_grown hgr4 (fun k e => by cases e; left; exact HBr2.out.lt) (fun k hk => .inl hk)).trans (fragU_down w4 (Nat.le_trans Hb1.out.size Hb2.out.size) (fun k hk => by cases hk))
   refine bodyPost_ret (v := .tuple #[.agg cs.toArray, .nilIface]) ?_ rfl ⟨hW, cs, rfl, Hf.out.mono hfle⟩
   exact results_blk2 (p := 2) (u := 3) (ty := 26) rfl _ _ gr cs rfl hB4 _ Tryz.underlying26 rfl (by rw [Hlen.out]; exact infoFl)
  | some x =>
   simp only at HP
   go_wp2_with fail
   refine HP.out.mono ?_
   rintro e w3 ⟨hb3, g, rfl, hBg⟩
   have HBr3 := HBr2.out.below hb3 HBr2.out.lt
   have Hb3 := Yq hb3; have HBg := Yq hBg
   clear hb3 hBg
   go_wp2_with (first
    | (refine wpList_store_all rfl 26 _ _ rfl gr zFl rfl rfl zFl HBr3 infoFl rfl ?_ ?_; (· decide); (intro w4 hB4 hgr4)))
   have hW : Below w.heap.size w w4 := Below.grown ((Hb1.out.trans (Hb2.out.mono Hb1.out.size)).trans (Hb3.out.mono (Nat.le_trans Hb1.out.size Hb2.out.size))) hgr4 (by have := Hb1.out.size; have := Hb2.out.size; have := Hb3.out.size; omega) (fun k e => by cases e; exact Hgr.out)
   have hBg4 := HBg.out.grown hgr4 (fun e => by
    cases e
    have h1 := HBr3.same HBg.out
    cases h1)
   refine bodyPost_ret (v := .tuple #[.agg zFl.toArray, .iface 73 (.pointer (some ⟨g, 0, none⟩))]) ?_ rfl ⟨hW, g, rfl, hBg4⟩
   exact results_blk2 (p := 2) (u := 3) (ty := 26) rfl _ _ gr zFl rfl hB4 _ Tryz.underlying26 rfl infoFl
end Go.Proofs.YtpcfdngnmigkfaaGreatDoor
