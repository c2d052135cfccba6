/- Package lexer, walked: words and texts. Package lexer, walked: texts in marks; one token. Package lexer, walked: one token. -/
import Derived.Test.YtpcfdngnmigkfaaGreatDoorLxNumber
set_option linter.unusedVariables false
set_option linter.unusedSimpArgs false
namespace Go.Proofs.YtpcfdngnmigkfaaGreatDoor
open Go.RowKit
theorem results_blk3 {P : Program} {fn : Func} {p u v : Tmp} {ty : TypeId} (h : fn.results = #[.cell p ty, .tmp u, .tmp v]) (tmps : Array Value) (w : World) (g : Nat) (cs : List Value) (hp : tmps.getD p undef = .pointer (some ⟨g, 0, none⟩)) (hb : Blk w g cs) (d : TypeDesc)
  (hu : P.underlying ty = some d) (hd : (match d with | .struct _ | .array _ _ => true | _ => false) = true) (hi : (P.info? ty).map (·.size) = some cs.length) :
  (results fn tmps).run P w = .ok (.tuple #[.agg cs.toArray, tmps.getD u undef, tmps.getD v undef]) w := by
 obtain ⟨t, hb⟩ := hb
 have hp' : tmps[p]?.getD undef = .pointer (some ⟨g, 0, none⟩) := by simpa using hp
 simp [results, h, hp', asAddr, run_loadVar_row w g t ty cs.toArray (0, 0) d hb hu hd (by simpa using hi), Sem.run_bind, Result.andThen]
def toB (l : Lx.Bs) : ByteArray := ⟨l.toArray⟩
theorem toB_list (l : Lx.Bs) : (toB l).data.toList = l := rfl
theorem toB_size (l : Lx.Bs) : (toB l).size = l.length := by rw [← len_data, toB_list]
theorem extract_pre (s : ByteArray) (n : Nat) : s.extract 0 n = toB (s.data.toList.take n) := by
 apply ByteArray.ext
 apply Array.ext'
 rw [toB_list]
 simp [ByteArray.data_extract, Array.toList_extract, List.extract_eq_take_drop]
theorem extract_mid (s : ByteArray) (a b : Nat) : s.extract a b = toB ((s.data.toList.drop a).take (b - a)) := by
 apply ByteArray.ext
 apply Array.ext'
 rw [toB_list]
 simp [ByteArray.data_extract, Array.toList_extract, List.extract_eq_take_drop]
def tokC (k : Nat) (t : Lx.Bs) (x line col : Nat) : List Value := [.int .i64 k, .string (toB t), .int .i64 x, .int .i64 line, .int .i64 col]
def zT : List Value := [.int .i64 0, .string ⟨#[]⟩, .int .i64 0, .int .i64 0, .int .i64 0]
theorem zeroT : (Tryz.prog.info? 80).map (·.zero) = some (some (.agg zT.toArray)) := by kernel_rfl
theorem infoT : (Tryz.prog.info? 80).map (·.size) = some 5 := by kernel_rfl
theorem one_tok (k x a b : Int) (t : ByteArray) : ∀ u ∈ [Value.int .i64 k, .string t, .int .i64 x, .int .i64 a, .int .i64 b], u.oneCell' = true := by
 intro u hu
 simp only [List.mem_cons, List.not_mem_nil, or_false] at hu
 rcases hu with rfl | rfl | rfl | rfl | rfl <;> rfl
def tokRes (A : Nat → Addr) : Lx.Res (Nat × Lx.Bs × Nat × Nat) → Ending → Prop
 | .ok (k, t, x, n), e => e = .returned (.tuple #[.agg (tokC k t x 0 0).toArray, .int .i64 n, .nilIface])
 | .bad m, e => ∃ (cs : List Value) (v : Int), cs.length = 5 ∧ (∀ u ∈ cs, u.oneCell' = true) ∧ e = .returned (.tuple #[.agg cs.toArray, .int .i64 v, errV (A (m - 1))])
def TokRet (A : Nat → Addr) (r : Lx.Res (Nat × Lx.Bs × Nat × Nat)) (w : World) (e : Ending) (w' : World) : Prop := tokRes A r e ∧ Below w.heap.size w w'
theorem inner_gives (w : World) : GivesB 43 #[] Lx.inner w := fun W b _ => (inner_any b W).mono fun e w' h => ⟨h.1, h.2 ▸ Below.refl _ _⟩
theorem inner_enters : ∀ args w, (callFunc 43 args).run Tryz.prog w = .ok (.enter 43 args) w := enters_of Tryz.func43 (by kernel_rfl) rfl
def wordOf (l : Lx.Bs) (b : UInt8) (n : Nat) : Lx.Res (Nat × Lx.Bs × Nat × Nat) :=
 if Lx.figure b then match Lx.number (l.take n) with
  | .bad m => .bad m
  | .ok x => .ok (2, l.take n, x, n)
 else if 40 < n then .bad 3
 else .ok (1, l.take n, 0, n)
set_option maxHeartbeats 4000000 in
set_option maxRecDepth 100000 in
theorem word_any (A : Nat → Addr) (s : ByteArray) (w : World) (hv : Vars A w) (hs : s.size ≤ 50000) (h0 : 0 < s.size) :
  Calls Tryz.prog 44 #[.string s] w (TokRet A (wordOf s.data.toList s[0] (Lx.run Lx.inner s.data.toList)) w) := by
 have Hv := Yq hv
 clear hv
 obtain ⟨l, hl⟩ : ∃ l, l = s.data.toList := ⟨_, rfl⟩
 have HR := Yq (fun w0 => run_any s _ #[] Lx.inner w0 (by unfold maxLen; omega) (inner_gives w0) inner_enters)
 have hle := Lx.run_le Lx.inner s.data.toList
 rw [len_data] at hle
 rw [← hl] at HR hle ⊢
 have Hpre := Yq (fun n => extract_pre s n)
 rw [← hl] at Hpre
 clear hl
 obtain ⟨n, hn⟩ : ∃ n, n = Lx.run Lx.inner l := ⟨_, rfl⟩
 rw [← hn] at HR hle ⊢
 have HF := Yq (fun w0 => figure_any s[0] w0)
 have HN := Yq (fun w0 (h : Vars A w0) => number_any A (toB (l.take n)) w0 h (by rw [toB_size, List.length_take]; omega))
 rw [toB_list] at HN
 unfold wordOf
 generalize Lx.figure s[0] = f at *
 clear hn
 cases f
 ·simp only [Bool.false_eq_true, if_false]
  clear HN
  by_cases h40 : 40 < n
  ·rw [if_pos h40]
   have h40z : (40 : Int) < (n : Int) := by omega
   clear h40
   go_enter Tryz.func44, Tryz.ntmps44
   go_upto_region 2 with (first
    | (refine wpList_alloc_lay rfl 80 rfl zT zeroT ?_; (intro w1 g1 hg1 hB1 hb1))
    | (go_at_call 39; (with_reducible refine (HR.out _).mono ?_); rintro e w2 ⟨rfl, hb2⟩; replace hB1 := hB1.below hb2 hB1.lt; replace hb1 := hb1.trans (hb2.mono hb1.size); clear hb2))
   go_upto_region 3 with (first
    | (refine wpList_alloc_lay rfl 80 rfl zT zeroT ?_; (intro w3 g3 hg3 hB3 hb3; have hne : Hid (g1 < g3) := Nat.lt_of_lt_of_le hB1.lt hg3; replace hB1 := hB1.below hb3 hB1.lt; replace hg3 := Nat.le_trans hb1.size hg3; replace hb1 := hb1.trans (hb3.mono hb1.size); clear hb3))
    | (refine wpList_store_all rfl 80 _ _ rfl g3 _ rfl rfl zT hB3 infoT rfl ?_ ?_; (· exact one_tok _ _ _ _ _); (intro w4 hB4 hgr; rw [Hpre.out] at hB4; replace hB1 := hB1.grown hgr (by have := hne.out; intro e; cases e; omega); replace hb1 := Below.grown hb1 hgr hb1.size (fun _ e => by cases e; exact hg3); clear hgr hB3)))
   have r1 : w4.cell? ⟨g3, 1, none⟩ = some (.string (toB (l.take n))) := hB4.cell (o := 1) rfl
   have Hv4 := Yq (Hv.out.below hb1)
   have hne3 := Yq (show g3 ≠ g1 from fun e => by have := hne.out; omega)
   go_simp
   obtain ⟨c0, c1, c2, c3, c4⟩ : w4.cell? ⟨g1, 0, none⟩ = some (.int .i64 0) ∧ w4.cell? ⟨g1, 1, none⟩ = some (.string ⟨#[]⟩) ∧ w4.cell? ⟨g1, 2, none⟩ = some (.int .i64 0) ∧ w4.cell? ⟨g1, 3, none⟩ = some (.int .i64 0) ∧ w4.cell? ⟨g1, 4, none⟩ = some (.int .i64 0) := ⟨hB1.cell rfl, hB1.cell rfl, hB1.cell rfl, hB1.cell rfl, hB1.cell rfl⟩
   have f0 := hB1.frozen 0; have f1 := hB1.frozen 1; have f2 := hB1.frozen 2; have f3 := hB1.frozen 3; have f4 := hB1.frozen 4
   have hlong := (Hv.out.below hb1).long
   unfold errV at hlong
   have hgl := Hv.out.lt.2.1
   have hgn1 : ¬ (g1 = 0) := by omega
   have hgn2 : ¬ (0 = g1) := by omega
   have HB1 := Yq hB1; have Hb1 := Yq hb1
   clear r1 hB1 hb1 hB4 hne3
   go_simp
   go_upto_region 8 with (first
    | (go_at_call 73; (with_reducible refine (HF.out _).mono ?_); rintro e w5 ⟨rfl, rfl⟩))
   go_region
   all_goals
    go_wp2
    have hBz := ((((HB1.out.setCell (o := 0) (.int .i64 0)).setCell (o := 1) (.string ⟨#[]⟩)).setCell (o := 2) (.int .i64 0)).setCell (o := 3) (.int .i64 0)).setCell (o := 4) (.int .i64 0)
    have hbz := (((((Hb1.out.setCell (p := ⟨g1, 0, none⟩) hg1 (.int .i64 0)).setCell (p := ⟨g1, 1, none⟩) hg1 (.string ⟨#[]⟩)).setCell (p := ⟨g1, 2, none⟩) hg1 (.int .i64 0)).setCell (p := ⟨g1, 3, none⟩) hg1 (.int .i64 0)).setCell (p := ⟨g1, 4, none⟩) hg1 (.int .i64 0)).drew
    refine bodyPost_ret (v := .tuple #[.agg zT.toArray, .int .i64 0, errV (A 2)]) ?_ rfl ⟨⟨zT, 0, rfl, one_tok _ _ _ _ _, rfl⟩, hbz⟩
    exact results_blk3 (p := 2) (u := 3) (v := 4) (ty := 80) rfl _ _ g1 zT rfl hBz _ Tryz.underlying80 rfl infoT
  ·rw [if_neg h40]
   have h40z : (n : Int) ≤ 40 := by omega
   clear h40
   go_enter Tryz.func44, Tryz.ntmps44
   go_upto_region 2 with (first
    | (refine wpList_alloc_lay rfl 80 rfl zT zeroT ?_; (intro w1 g1 hg1 hB1 hb1))
    | (go_at_call 39; (with_reducible refine (HR.out _).mono ?_); rintro e w2 ⟨rfl, hb2⟩; replace hB1 := hB1.below hb2 hB1.lt; replace hb1 := hb1.trans (hb2.mono hb1.size); clear hb2))
   go_upto_region 3 with (first
    | (refine wpList_alloc_lay rfl 80 rfl zT zeroT ?_; (intro w3 g3 hg3 hB3 hb3; have hne : Hid (g1 < g3) := Nat.lt_of_lt_of_le hB1.lt hg3; replace hB1 := hB1.below hb3 hB1.lt; replace hg3 := Nat.le_trans hb1.size hg3; replace hb1 := hb1.trans (hb3.mono hb1.size); clear hb3))
    | (refine wpList_store_all rfl 80 _ _ rfl g3 _ rfl rfl zT hB3 infoT rfl ?_ ?_; (· exact one_tok _ _ _ _ _); (intro w4 hB4 hgr; rw [Hpre.out] at hB4; replace hB1 := hB1.grown hgr (by have := hne.out; intro e; cases e; omega); replace hb1 := Below.grown hb1 hgr hb1.size (fun _ e => by cases e; exact hg3); clear hgr hB3)))
   have r1 : w4.cell? ⟨g3, 1, none⟩ = some (.string (toB (l.take n))) := hB4.cell (o := 1) rfl
   have Hv4 := Yq (Hv.out.below hb1)
   have hne3 := Yq (show g3 ≠ g1 from fun e => by have := hne.out; omega)
   go_simp
   have r9 : w4.rangeAt g3 0 (tokC 1 (l.take n) 0 0 0) := hB4.whole
   clear r1
   go_simp
   go_wp2_with (first
    | (go_at_call 73; (with_reducible refine (HF.out _).mono ?_); rintro e w5 ⟨rfl, rfl⟩)
    | (refine wpList_load_seg rfl 80 _ rfl _ _ rfl _ _ r9 Tryz.underlying80 rfl infoT ?_)
    | (refine wpList_store_all rfl 80 _ _ rfl g1 _ rfl rfl zT hB1 infoT rfl ?_ ?_; (· exact one_tok _ _ _ _ _); (intro w9 hB9 hgr; replace hb1 := Below.grown hb1 hgr hb1.size (fun _ e => by cases e; exact hg1); clear hgr r9)))
   refine bodyPost_ret (v := .tuple #[.agg (tokC 1 (l.take n) 0 0 0).toArray, .int .i64 n, .nilIface]) ?_ rfl ⟨rfl, hb1⟩
   exact results_blk3 (p := 2) (u := 3) (v := 4) (ty := 80) rfl _ _ g1 _ rfl hB9 _ Tryz.underlying80 rfl infoT
 ·simp only [if_true]
  cases hnum : Lx.number (l.take n) with
  | bad m =>
   rw [hnum] at HN
   replace HN : Hid (∀ w0, Vars A w0 → Calls Tryz.prog 74 #[.string (toB (l.take n))] w0 fun e w' => e = .returned (.tuple #[.int .i64 0, errV (A (m - 1))]) ∧ Below w0.heap.size w0 w') := HN
   clear hnum
   go_enter Tryz.func44, Tryz.ntmps44
   go_upto_region 2 with (first
    | (refine wpList_alloc_lay rfl 80 rfl zT zeroT ?_; (intro w1 g1 hg1 hB1 hb1))
    | (go_at_call 39; (with_reducible refine (HR.out _).mono ?_); rintro e w2 ⟨rfl, hb2⟩; replace hB1 := hB1.below hb2 hB1.lt; replace hb1 := hb1.trans (hb2.mono hb1.size); clear hb2))
   go_upto_region 3 with (first
    | (refine wpList_alloc_lay rfl 80 rfl zT zeroT ?_; (intro w3 g3 hg3 hB3 hb3; have hne : Hid (g1 < g3) := Nat.lt_of_lt_of_le hB1.lt hg3; replace hB1 := hB1.below hb3 hB1.lt; replace hg3 := Nat.le_trans hb1.size hg3; replace hb1 := hb1.trans (hb3.mono hb1.size); clear hb3))
    | (refine wpList_store_all rfl 80 _ _ rfl g3 _ rfl rfl zT hB3 infoT rfl ?_ ?_; (· exact one_tok _ _ _ _ _); (intro w4 hB4 hgr; rw [Hpre.out] at hB4; replace hB1 := hB1.grown hgr (by have := hne.out; intro e; cases e; omega); replace hb1 := Below.grown hb1 hgr hb1.size (fun _ e => by cases e; exact hg3); clear hgr hB3)))
   have r1 : w4.cell? ⟨g3, 1, none⟩ = some (.string (toB (l.take n))) := hB4.cell (o := 1) rfl
   have Hv4 := Yq (Hv.out.below hb1)
   have hne3 := Yq (show g3 ≠ g1 from fun e => by have := hne.out; omega)
   go_simp
   go_upto_region 5 with (first
    | (go_at_call 73; (with_reducible refine (HF.out _).mono ?_); rintro e w5 ⟨rfl, rfl⟩)
    | (go_at_call 74; (with_reducible refine (HN.out _ Hv4.out).mono ?_); rintro e w6 ⟨rfl, hb6⟩; have hB6 := hB4.below hb6 hB4.lt; replace hB1 := hB1.below hb6 hB1.lt; replace hb1 := hb1.trans (hb6.mono hb1.size); clear hb6 hB4 r1))
   go_simp
   go_wp2_with (first
    | (refine wpList_store_blk1 rfl 3 (.tmp 25) (.const (.int .i64 2)) rfl g3 0 (.int .i64 2) rfl rfl _ hB6 rfl ?_ rfl ?_; (· show 0 + 1 ≤ 5; decide); (intro w7 hB7 hgr hsz; replace hB1 := hB1.grown hgr (by have := hne3.out; intro e; cases e; exact this rfl); replace hb1 := Below.grown hb1 hgr hb1.size (fun _ e => by cases e; exact hg3); clear hgr hsz hB6))
    | (refine wpList_store_blk1 rfl 3 (.tmp 26) (.tmp 24) rfl g3 2 (.int .i64 0) rfl rfl _ hB7 rfl ?_ rfl ?_; (· show 2 + 1 ≤ 5; decide); (intro w8 hB8 hgr hsz; replace hB1 := hB1.grown hgr (by have := hne3.out; intro e; cases e; exact this rfl); replace hb1 := Below.grown hb1 hgr hb1.size (fun _ e => by cases e; exact hg3); have r9 : w8.rangeAt g3 0 (tokC 2 (l.take n) 0 0 0) := hB8.whole; clear hgr hsz hB7 hB8))
    | (refine wpList_load_seg rfl 80 _ rfl _ _ rfl _ _ r9 Tryz.underlying80 rfl infoT ?_)
    | (refine wpList_store_all rfl 80 _ _ rfl g1 _ rfl rfl zT hB1 infoT rfl ?_ ?_; (· exact one_tok _ _ _ _ _); (intro w9 hB9 hgr; replace hb1 := Below.grown hb1 hgr hb1.size (fun _ e => by cases e; exact hg1); clear hgr r9)))
   refine bodyPost_ret (v := .tuple #[.agg (tokC 2 (l.take n) 0 0 0).toArray, .int .i64 n, errV (A (m - 1))]) ?_ rfl ⟨⟨_, _, rfl, one_tok _ _ _ _ _, rfl⟩, hb1⟩
   exact results_blk3 (p := 2) (u := 3) (v := 4) (ty := 80) rfl _ _ g1 _ rfl hB9 _ Tryz.underlying80 rfl infoT
  | ok x =>
   rw [hnum] at HN
   replace HN : Hid (∀ w0, Vars A w0 → Calls Tryz.prog 74 #[.string (toB (l.take n))] w0 fun e w' => e = .returned (.tuple #[.int .i64 x, .nilIface]) ∧ Below w0.heap.size w0 w') := HN
   clear hnum
   go_enter Tryz.func44, Tryz.ntmps44
   go_upto_region 2 with (first
    | (refine wpList_alloc_lay rfl 80 rfl zT zeroT ?_; (intro w1 g1 hg1 hB1 hb1))
    | (go_at_call 39; (with_reducible refine (HR.out _).mono ?_); rintro e w2 ⟨rfl, hb2⟩; replace hB1 := hB1.below hb2 hB1.lt; replace hb1 := hb1.trans (hb2.mono hb1.size); clear hb2))
   go_upto_region 3 with (first
    | (refine wpList_alloc_lay rfl 80 rfl zT zeroT ?_; (intro w3 g3 hg3 hB3 hb3; have hne : Hid (g1 < g3) := Nat.lt_of_lt_of_le hB1.lt hg3; replace hB1 := hB1.below hb3 hB1.lt; replace hg3 := Nat.le_trans hb1.size hg3; replace hb1 := hb1.trans (hb3.mono hb1.size); clear hb3))
    | (refine wpList_store_all rfl 80 _ _ rfl g3 _ rfl rfl zT hB3 infoT rfl ?_ ?_; (· exact one_tok _ _ _ _ _); (intro w4 hB4 hgr; rw [Hpre.out] at hB4; replace hB1 := hB1.grown hgr (by have := hne.out; intro e; cases e; omega); replace hb1 := Below.grown hb1 hgr hb1.size (fun _ e => by cases e; exact hg3); clear hgr hB3)))
   have r1 : w4.cell? ⟨g3, 1, none⟩ = some (.string (toB (l.take n))) := hB4.cell (o := 1) rfl
   have Hv4 := Yq (Hv.out.below hb1)
   have hne3 := Yq (show g3 ≠ g1 from fun e => by have := hne.out; omega)
   go_simp
   go_upto_region 5 with (first
    | (go_at_call 73; (with_reducible refine (HF.out _).mono ?_); rintro e w5 ⟨rfl, rfl⟩)
    | (go_at_call 74; (with_reducible refine (HN.out _ Hv4.out).mono ?_); rintro e w6 ⟨rfl, hb6⟩; have hB6 := hB4.below hb6 hB4.lt; replace hB1 := hB1.below hb6 hB1.lt; replace hb1 := hb1.trans (hb6.mono hb1.size); clear hb6 hB4 r1))
   go_simp
   go_wp2_with (first
    | (refine wpList_store_blk1 rfl 3 (.tmp 25) (.const (.int .i64 2)) rfl g3 0 (.int .i64 2) rfl rfl _ hB6 rfl ?_ rfl ?_; (· show 0 + 1 ≤ 5; decide); (intro w7 hB7 hgr hsz; replace hB1 := hB1.grown hgr (by have := hne3.out; intro e; cases e; exact this rfl); replace hb1 := Below.grown hb1 hgr hb1.size (fun _ e => by cases e; exact hg3); clear hgr hsz hB6))
    | (refine wpList_store_blk1 rfl 3 (.tmp 26) (.tmp 24) rfl g3 2 (.int .i64 x) rfl rfl _ hB7 rfl ?_ rfl ?_; (· show 2 + 1 ≤ 5; decide); (intro w8 hB8 hgr hsz; replace hB1 := hB1.grown hgr (by have := hne3.out; intro e; cases e; exact this rfl); replace hb1 := Below.grown hb1 hgr hb1.size (fun _ e => by cases e; exact hg3); have r9 : w8.rangeAt g3 0 (tokC 2 (l.take n) x 0 0) := hB8.whole; clear hgr hsz hB7 hB8))
    | (refine wpList_load_seg rfl 80 _ rfl _ _ rfl _ _ r9 Tryz.underlying80 rfl infoT ?_)
    | (refine wpList_store_all rfl 80 _ _ rfl g1 _ rfl rfl zT hB1 infoT rfl ?_ ?_; (· exact one_tok _ _ _ _ _); (intro w9 hB9 hgr; replace hb1 := Below.grown hb1 hgr hb1.size (fun _ e => by cases e; exact hg1); clear hgr r9)))
   refine bodyPost_ret (v := .tuple #[.agg (tokC 2 (l.take n) x 0 0).toArray, .int .i64 n, .nilIface]) ?_ rfl ⟨rfl, hb1⟩
   exact results_blk3 (p := 2) (u := 3) (v := 4) (ty := 80) rfl _ _ g1 _ rfl hB9 _ Tryz.underlying80 rfl infoT
structure ZB (w : World) (g : Nat) : Prop where
 c0 : w.cell? ⟨g, 0, none⟩ = some (.int .i64 0)
 c1 : w.cell? ⟨g, 1, none⟩ = some (.string ⟨#[]⟩)
 c2 : w.cell? ⟨g, 2, none⟩ = some (.int .i64 0)
 c3 : w.cell? ⟨g, 3, none⟩ = some (.int .i64 0)
 c4 : w.cell? ⟨g, 4, none⟩ = some (.int .i64 0)
 f0 : w.frozen? ⟨g, 0, none⟩ = false
 f1 : w.frozen? ⟨g, 1, none⟩ = false
 f2 : w.frozen? ⟨g, 2, none⟩ = false
 f3 : w.frozen? ⟨g, 3, none⟩ = false
 f4 : w.frozen? ⟨g, 4, none⟩ = false
theorem ZB.of {w : World} {g : Nat} (h : Blk w g zT) : ZB w g := ⟨h.cell rfl, h.cell rfl, h.cell rfl, h.cell rfl, h.cell rfl, h.frozen 0, h.frozen 1, h.frozen 2, h.frozen 3, h.frozen 4⟩
def zSet (w : World) (g : Nat) : World := ((((w.setCell ⟨g, 0, none⟩ (.int .i64 0)).setCell ⟨g, 1, none⟩ (.string ⟨#[]⟩)).setCell ⟨g, 2, none⟩ (.int .i64 0)).setCell ⟨g, 3, none⟩ (.int .i64 0)).setCell ⟨g, 4, none⟩ (.int .i64 0)
theorem zSet_blk {w : World} {g : Nat} (h : Blk w g zT) : Blk (zSet w g) g zT := ((((h.setCell (o := 0) (.int .i64 0)).setCell (o := 1) (.string ⟨#[]⟩)).setCell (o := 2) (.int .i64 0)).setCell (o := 3) (.int .i64 0)).setCell (o := 4) (.int .i64 0)
theorem zSet_below {B : Nat} {a w : World} {g : Nat} (h : Below B a w) (hg : B ≤ g) : Below B a (zSet w g) :=
 ((((h.setCell (p := ⟨g, 0, none⟩) hg (.int .i64 0)).setCell (p := ⟨g, 1, none⟩) hg (.string ⟨#[]⟩)).setCell (p := ⟨g, 2, none⟩) hg (.int .i64 0)).setCell (p := ⟨g, 3, none⟩) hg (.int .i64 0)).setCell (p := ⟨g, 4, none⟩) hg (.int .i64 0)
theorem tok_bad {A : Nat → Addr} {m : Nat} {cs : List Value} {v : Int} {e : Ending} (h1 : cs.length = 5) (h2 : ∀ u ∈ cs, u.oneCell' = true) (he : e = .returned (.tuple #[.agg cs.toArray, .int .i64 v, errV (A (m - 1))])) : tokRes A (.bad m) e := ⟨cs, v, h1, h2, he⟩
def textOf (b : UInt8) (r : Lx.Bs) : Lx.Res (Nat × Lx.Bs × Nat × Nat) := match Lx.idx1 b r with
 | none => .bad 9
 | some n => if (r.take n).any (fun c => c == 92 || c == 10) then .bad 9 else .ok (3, r.take n, 0, n + 2)
set_option maxHeartbeats 4000000 in
set_option maxRecDepth 100000 in
theorem text_any (A : Nat → Addr) (s : ByteArray) (w : World) (hv : Vars A w) (hs : s.size ≤ 50000) (h0 : 0 < s.size) :
  Calls Tryz.prog 45 #[.string s] w (TokRet A (textOf s[0] (s.data.toList.drop 1)) w) := by
 have Hv := Yq hv
 have h0z : (0 : Int) < (s.size : Int) := by omega
 have HX := Yq (fun w0 => idxbyte_any (s.extract 1 s.size) s[0] w0)
 have hlist : (s.extract 1 s.size).data.toList = s.data.toList.drop 1 := by rw [extract_rest]; rfl
 rw [hlist, idx1_index] at HX
 have HC := Yq (fun (n : Nat) w0 => containsany_any (s.extract 1 (n + 1)) w0)
 have hll : (s.data.toList.drop 1).length = s.size - 1 := by rw [List.length_drop, len_data]
 have Hmid := Yq (fun (n : Nat) => (extract_mid s 1 (n + 1)).trans (by rw [Nat.add_sub_cancel]))
 generalize s.data.toList.drop 1 = r at *
 clear hv hlist
 have hgl := Hv.out.lt.2.2.1
 unfold textOf
 cases hi : Lx.idx1 s[0] r with
 | none =>
  rw [hi] at HX
  replace HX : Hid (∀ w0, Calls Tryz.prog 41 #[.string (s.extract 1 s.size), .int .u8 s[0].toNat] w0 fun e w' => e = .returned (.int .i64 (-1)) ∧ w0 = w') := HX
  clear hi
  simp only
  go_enter Tryz.func45, Tryz.ntmps45
  go_upto_region 1 with (first
   | (refine wpList_alloc_lay rfl 80 rfl zT zeroT ?_; (intro w1 g1 hg1 hB1 hb1)))
  go_quiet ((go_at_call 41; exact Calls.quiet_of_same ((HX.out _).mono fun e w1 h => ⟨h.1, h.2.symm⟩)))
  generalize hw2 : w1.drewN nq = w2
  have hb2 : Below w.heap.size w w2 := by rw [← hw2]; exact Below.drewN hb1 _
  have hB2 : Blk w2 g1 zT := by rw [← hw2]; exact hB1
  have hform := (Hv.out.below hb2).form
  unfold errV at hform
  obtain ⟨c0, c1, c2, c3, c4, f0, f1, f2, f3, f4⟩ := ZB.of hB2
  have hgn1 : ¬ (g1 = 1) := by omega
  have hgn2 : ¬ (1 = g1) := by omega
  have HB2 := Yq hB2; have Hb2 := Yq hb2
  clear hw2 hB2 hb2 hB1 hb1
  go_upto_region 3 with (fail)
  go_region
  all_goals
   go_wp2
   refine bodyPost_ret (v := .tuple #[.agg zT.toArray, .int .i64 0, errV (A 8)]) ?_ rfl ⟨tok_bad rfl (one_tok _ _ _ _ _) rfl, (zSet_below Hb2.out hg1).drew⟩
   exact results_blk3 (p := 2) (u := 3) (v := 4) (ty := 80) rfl _ _ g1 zT rfl (zSet_blk HB2.out) _ Tryz.underlying80 rfl infoT
 | some n =>
  rw [hi] at HX
  replace HX : Hid (∀ w0, Calls Tryz.prog 41 #[.string (s.extract 1 s.size), .int .u8 s[0].toNat] w0 fun e w' => e = .returned (.int .i64 n) ∧ w0 = w') := HX
  have hn := Lx.idx1_lt hi
  rw [hll] at hn
  have HC' := Yq (fun w0 => HC.out n w0 (by rw [Hmid.out, toB_size, List.length_take]; omega))
  rw [Hmid.out n, toB_list] at HC'
  have Hm := Yq (Hmid.out n)
  clear hi HC Hmid hll
  simp only
  have hnz : (n : Int) + 1 ≤ (s.size : Int) := by omega
  generalize hany : (r.take n).any (fun c => c == 92 || c == 10) = bad at *
  cases bad
  ·simp only [Bool.false_eq_true, if_false]
   go_enter Tryz.func45, Tryz.ntmps45
   go_upto_region 1 with (first
    | (refine wpList_alloc_lay rfl 80 rfl zT zeroT ?_; (intro w1 g1 hg1 hB1 hb1)))
   go_quiet ((go_at_call 41; exact Calls.quiet_of_same ((HX.out _).mono fun e w1 h => ⟨h.1, h.2.symm⟩)))
   generalize hw2 : w1.drewN nq = w2
   have hb2 : Below w.heap.size w w2 := by rw [← hw2]; exact Below.drewN hb1 _
   have hB2 : Blk w2 g1 zT := by rw [← hw2]; exact hB1
   clear hw2 hB1 hb1 hany
   go_upto_region 4 with (first
    | (go_at_call 75; rw [Hm.out]; (with_reducible refine (HC'.out _).mono ?_); rintro e w3 ⟨rfl, hb3⟩; replace hB2 := hB2.below hb3 hB2.lt; replace hb2 := hb2.trans (hb3.mono hb2.size); clear hb3))
   go_wp2_with (first
    | (refine wpList_store_all rfl 80 _ _ rfl g1 _ rfl rfl zT hB2 infoT rfl ?_ ?_; (· exact one_tok _ _ _ _ _); (intro w9 hB9 hgr; rw [Hm.out] at hB9; replace hb2 := Below.grown hb2 hgr hb2.size (fun _ e => by cases e; exact hg1); clear hgr)))
   refine bodyPost_ret (v := .tuple #[.agg (tokC 3 (r.take n) 0 0 0).toArray, .int .i64 (n + 2 : Nat), .nilIface]) ?_ rfl ⟨rfl, hb2⟩
   exact results_blk3 (p := 2) (u := 3) (v := 4) (ty := 80) rfl _ _ g1 _ rfl hB9 _ Tryz.underlying80 rfl infoT
  ·simp only [if_true]
   go_enter Tryz.func45, Tryz.ntmps45
   go_upto_region 1 with (first
    | (refine wpList_alloc_lay rfl 80 rfl zT zeroT ?_; (intro w1 g1 hg1 hB1 hb1)))
   go_quiet ((go_at_call 41; exact Calls.quiet_of_same ((HX.out _).mono fun e w1 h => ⟨h.1, h.2.symm⟩)))
   generalize hw2 : w1.drewN nq = w2
   have hb2 : Below w.heap.size w w2 := by rw [← hw2]; exact Below.drewN hb1 _
   have hB2 : Blk w2 g1 zT := by rw [← hw2]; exact hB1
   clear hw2 hB1 hb1 hany
   have HB2 := Yq hB2; have Hb2 := Yq hb2
   clear hB2 hb2
   go_upto_region 3 with (first
    | (go_at_call 75; rw [Hm.out]; (with_reducible refine (HC'.out _).mono ?_); rintro e w3 ⟨rfl, hb3⟩))
   have hB3 := HB2.out.below hb3 HB2.out.lt
   have hb4 := Hb2.out.trans (hb3.mono Hb2.out.size)
   have hform := (Hv.out.below hb4).form
   unfold errV at hform
   obtain ⟨c0, c1, c2, c3, c4, f0, f1, f2, f3, f4⟩ := ZB.of hB3
   have hgn1 : ¬ (g1 = 1) := by omega
   have hgn2 : ¬ (1 = g1) := by omega
   have HB3 := Yq hB3; have Hb4 := Yq hb4
   clear hB3 hb4 hb3
   go_region
   all_goals
    go_wp2
    refine bodyPost_ret (v := .tuple #[.agg zT.toArray, .int .i64 0, errV (A 8)]) ?_ rfl ⟨tok_bad rfl (one_tok _ _ _ _ _) rfl, (zSet_below Hb4.out hg1).drew⟩
    exact results_blk3 (p := 2) (u := 3) (v := 4) (ty := 80) rfl _ _ g1 zT rfl (zSet_blk HB3.out) _ Tryz.underlying80 rfl infoT
theorem tokRes_shape {A : Nat → Addr} {r : Lx.Res (Nat × Lx.Bs × Nat × Nat)} {e : Ending} (h : tokRes A r e) : ∃ (cs : List Value) (v : Int) (er : Value), cs.length = 5 ∧ (∀ u ∈ cs, u.oneCell' = true) ∧ e = .returned (.tuple #[.agg cs.toArray, .int .i64 v, er]) := by
 cases r with
 | bad m => obtain ⟨cs, v, h1, h2, h3⟩ := h; exact ⟨cs, v, _, h1, h2, h3⟩
 | ok x => obtain ⟨k, t, y, n⟩ := x; exact ⟨_, _, _, rfl, one_tok _ _ _ _ _, h⟩
theorem token_eq (b : UInt8) (r : Lx.Bs) : Lx.token (b :: r) = if Lx.inner b then wordOf (b :: r) b (Lx.run Lx.inner (b :: r)) else if ([34, 39] : Lx.Bs).contains b then textOf b r else if Lx.isSign b then .ok (4, [b], 0, 1) else .bad 9 := by
 unfold Lx.token wordOf textOf
 simp only
 by_cases h1 : Lx.inner b = true
 ·simp only [h1, if_true]; rfl
 ·by_cases h2 : b = 34 ∨ b = 39
  ·have : ([34, 39] : Lx.Bs).contains b = true := by rcases h2 with rfl | rfl <;> rfl
   simp only [h1, h2, this, if_true, if_false]; rfl
  ·have : ([34, 39] : Lx.Bs).contains b = false := by
    simp only [List.contains_cons, List.contains_nil, Bool.or_false, Bool.or_eq_false_iff, beq_eq_false_iff_ne]
    exact ⟨fun e => h2 (.inl e), fun e => h2 (.inr e)⟩
   simp only [h1, h2, this, if_false]; rfl
set_option maxHeartbeats 4000000 in
set_option maxRecDepth 100000 in
theorem token_any (A : Nat → Addr) (s : ByteArray) (w : World) (hv : Vars A w) (hs : s.size ≤ 50000) (h0 : 0 < s.size) :
  Calls Tryz.prog 21 #[.string s] w (TokRet A (Lx.token s.data.toList) w) := by
 have Hv := Yq hv
 have h0z : (0 : Int) < (s.size : Int) := by omega
 have hh : s.data.toList = s[0] :: s.data.toList.drop 1 := by
  have h1 : 0 < s.data.toList.length := by rw [len_data]; exact h0
  have h2 := List.drop_eq_getElem_cons h1
  rw [List.drop_zero] at h2
  exact h2
 have htok : Lx.token s.data.toList = if Lx.inner s[0] then wordOf s.data.toList s[0] (Lx.run Lx.inner s.data.toList) else if ([34, 39] : Lx.Bs).contains s[0] then textOf s[0] (s.data.toList.drop 1) else if Lx.isSign s[0] then .ok (4, [s[0]], 0, 1) else .bad 9 := by
  have := token_eq s[0] (s.data.toList.drop 1)
  rw [← hh] at this
  exact this
 rw [htok]
 have HI := Yq (fun w0 => inner_any s[0] w0)
 have HQ := Yq (fun w0 => idxbyte_any ⟨#[34, 39]⟩ s[0] w0)
 have HS := Yq (fun w0 => idxbyte_any ⟨#[123, 125, 91, 93, 60, 62, 40, 41, 59, 61, 44, 46, 45]⟩ s[0] w0)
 have hq := Lib.contains_iff_indexByte [34, 39] s[0]
 have hsg : Lx.isSign s[0] = decide ((0 : Int) ≤ Lib.indexByte [123, 125, 91, 93, 60, 62, 40, 41, 59, 61, 44, 46, 45] s[0]) := Lib.contains_iff_indexByte [123, 125, 91, 93, 60, 62, 40, 41, 59, 61, 44, 46, 45] s[0]
 rw [show (⟨#[34, 39]⟩ : ByteArray).data.toList = [34, 39] from rfl] at HQ
 rw [show (⟨#[123, 125, 91, 93, 60, 62, 40, 41, 59, 61, 44, 46, 45]⟩ : ByteArray).data.toList = [123, 125, 91, 93, 60, 62, 40, 41, 59, 61, 44, 46, 45] from rfl] at HS
 rw [hq, hsg]
 have Hpre : Hid (s.extract 0 1 = toB [s[0]]) := Yq (by rw [extract_pre, hh]; rfl)
 have hgl := Hv.out.lt.2.2.1
 have HW := Yq (fun w0 (h : Vars A w0) => word_any A s w0 h hs h0)
 have HT := Yq (fun w0 (h : Vars A w0) => text_any A s w0 h hs h0)
 generalize Lib.indexByte [34, 39] s[0] = q at *
 generalize Lib.indexByte [123, 125, 91, 93, 60, 62, 40, 41, 59, 61, 44, 46, 45] s[0] = sg at *
 generalize Lx.inner s[0] = i at *
 clear hv hh htok hq hsg
 cases i
 ·simp only [Bool.false_eq_true, if_false]
  clear HW
  by_cases hq : 0 ≤ q
  ·simp only [decide_eq_true hq, if_true]
   generalize textOf s[0] (s.data.toList.drop 1) = res at *
   go_enter Tryz.func21, Tryz.ntmps21
   go_upto_region 5 with (first
    | (refine wpList_alloc_lay rfl 80 rfl zT zeroT ?_; (intro w1 g1 hg1 hB1 hb1))
    | (go_at_call 43; (with_reducible refine (HI.out _).mono ?_); rintro e w2 ⟨rfl, rfl⟩)
    | (go_at_call 41; (with_reducible refine (HQ.out _).mono ?_); rintro e w2 ⟨rfl, rfl⟩))
   have Hv1 := Yq (Hv.out.below hb1)
   go_wp2_with (first
    | (go_at_call 45; (with_reducible refine (HT.out _ Hv1.out).mono ?_); rintro e w2 ⟨ht, hb2⟩; obtain ⟨cs, v, er, hl, h1, rfl⟩ := tokRes_shape ht; replace hB1 := hB1.below hb2 hB1.lt; replace hb1 := hb1.trans (hb2.mono hb1.size); have HT2 := Yq ht; have Hl := Yq hl; have H1 := Yq h1; clear hb2 ht hl h1)
    | (refine wpList_store_all rfl 80 _ _ rfl g1 cs rfl rfl zT hB1 ?_ ?_ H1.out ?_; (· exact infoT.trans (congrArg some Hl.out.symm)); (· exact Hl.out); (intro w9 hB9 hgr; replace hb1 := Below.grown hb1 hgr hb1.size (fun _ e => by cases e; exact hg1); clear hgr)))
   refine bodyPost_ret (v := .tuple #[.agg cs.toArray, .int .i64 v, er]) ?_ rfl ⟨HT2.out, hb1⟩
   exact results_blk3 (p := 2) (u := 3) (v := 4) (ty := 80) rfl _ _ g1 _ rfl hB9 _ Tryz.underlying80 rfl (infoT.trans (congrArg some Hl.out.symm))
  ·simp only [decide_eq_false hq, Bool.false_eq_true, if_false]
   clear HT
   by_cases hs2 : 0 ≤ sg
   ·simp only [decide_eq_true hs2, if_true]
    go_enter Tryz.func21, Tryz.ntmps21
    go_upto_region 4 with (first
     | (refine wpList_alloc_lay rfl 80 rfl zT zeroT ?_; (intro w1 g1 hg1 hB1 hb1))
     | (go_at_call 43; (with_reducible refine (HI.out _).mono ?_); rintro e w2 ⟨rfl, rfl⟩))
    go_upto_region 6 with (first
     | (go_at_call 41; (with_reducible refine (HQ.out _).mono ?_); rintro e w2 ⟨rfl, rfl⟩))
    go_wp2_with (first
     | (go_at_call 41; (with_reducible refine (HS.out _).mono ?_); rintro e w2 ⟨rfl, rfl⟩)
     | (refine wpList_store_all rfl 80 _ _ rfl g1 _ rfl rfl zT hB1 infoT rfl ?_ ?_; (· exact one_tok _ _ _ _ _); (intro w9 hB9 hgr; rw [Hpre.out] at hB9; replace hb1 := Below.grown hb1 hgr hb1.size (fun _ e => by cases e; exact hg1); clear hgr)))
    refine bodyPost_ret (v := .tuple #[.agg (tokC 4 [s[0]] 0 0 0).toArray, .int .i64 1, .nilIface]) ?_ rfl ⟨rfl, hb1⟩
    exact results_blk3 (p := 2) (u := 3) (v := 4) (ty := 80) rfl _ _ g1 _ rfl hB9 _ Tryz.underlying80 rfl infoT
   ·simp only [decide_eq_false hs2, Bool.false_eq_true, if_false]
    go_enter Tryz.func21, Tryz.ntmps21
    go_upto_region 4 with (first
     | (refine wpList_alloc_lay rfl 80 rfl zT zeroT ?_; (intro w1 g1 hg1 hB1 hb1))
     | (go_at_call 43; (with_reducible refine (HI.out _).mono ?_); rintro e w2 ⟨rfl, rfl⟩))
    go_upto_region 6 with (first
     | (go_at_call 41; (with_reducible refine (HQ.out _).mono ?_); rintro e w2 ⟨rfl, rfl⟩))
    have hform := (Hv.out.below hb1).form
    unfold errV at hform
    obtain ⟨c0, c1, c2, c3, c4, f0, f1, f2, f3, f4⟩ := ZB.of hB1
    have hgn1 : ¬ (g1 = 1) := by omega
    have hgn2 : ¬ (1 = g1) := by omega
    have HB1 := Yq hB1; have Hb1 := Yq hb1
    clear hB1 hb1
    go_upto_region 8 with (first
     | (go_at_call 41; (with_reducible refine (HS.out _).mono ?_); rintro e w2 ⟨rfl, rfl⟩))
    go_region
    all_goals
     go_wp2
     refine bodyPost_ret (v := .tuple #[.agg zT.toArray, .int .i64 0, errV (A 8)]) ?_ rfl ⟨tok_bad rfl (one_tok _ _ _ _ _) rfl, (zSet_below Hb1.out hg1).drew⟩
     exact results_blk3 (p := 2) (u := 3) (v := 4) (ty := 80) rfl _ _ g1 zT rfl (zSet_blk HB1.out) _ Tryz.underlying80 rfl infoT
 ·simp only [if_true]
  clear HT
  generalize wordOf s.data.toList s[0] (Lx.run Lx.inner s.data.toList) = res at *
  go_enter Tryz.func21, Tryz.ntmps21
  go_upto_region 3 with (first
   | (refine wpList_alloc_lay rfl 80 rfl zT zeroT ?_; (intro w1 g1 hg1 hB1 hb1))
   | (go_at_call 43; (with_reducible refine (HI.out _).mono ?_); rintro e w2 ⟨rfl, rfl⟩))
  have Hv1 := Yq (Hv.out.below hb1)
  go_wp2_with (first
   | (go_at_call 44; (with_reducible refine (HW.out _ Hv1.out).mono ?_); rintro e w2 ⟨ht, hb2⟩; obtain ⟨cs, v, er, hl, h1, rfl⟩ := tokRes_shape ht; replace hB1 := hB1.below hb2 hB1.lt; replace hb1 := hb1.trans (hb2.mono hb1.size); have HT2 := Yq ht; have Hl := Yq hl; have H1 := Yq h1; clear hb2 ht hl h1)
   | (refine wpList_store_all rfl 80 _ _ rfl g1 cs rfl rfl zT hB1 ?_ ?_ H1.out ?_; (· exact infoT.trans (congrArg some Hl.out.symm)); (· exact Hl.out); (intro w9 hB9 hgr; replace hb1 := Below.grown hb1 hgr hb1.size (fun _ e => by cases e; exact hg1); clear hgr)))
  refine bodyPost_ret (v := .tuple #[.agg cs.toArray, .int .i64 v, er]) ?_ rfl ⟨HT2.out, hb1⟩
  exact results_blk3 (p := 2) (u := 3) (v := 4) (ty := 80) rfl _ _ g1 _ rfl hB9 _ Tryz.underlying80 rfl (infoT.trans (congrArg some Hl.out.symm))
end Go.Proofs.YtpcfdngnmigkfaaGreatDoor
