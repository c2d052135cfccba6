/- Package lexer, walked: words and texts. -/
import Derived.Test.YtiofhfcohhfihaaGreatDoorLxNumber
namespace Go.Proofs.YtiofhfcohhfihaaGreatDoor
open Go.RowKit
set_option linter.unusedVariables false
set_option linter.unusedSimpArgs false

theorem results_blk3 {P : Program} {fn : Func} {p u v : Tmp} {ty : TypeId} (h : fn.results = #[.cell p ty, .tmp u, .tmp v]) (tmps : Array Value) (w : World) (g : Nat) (cs : List Value) (hp : tmps.getD p undef = .pointer (some ⟨g, 0, none⟩)) (hb : Blk w g cs) (d : TypeDesc)
    (hu : P.underlying ty = some d) (hd : (match d with | .struct _ | .array _ _ => true | _ => false) = true) (hi : (P.info? ty).map (·.size) = some cs.length) :
    (results fn tmps).run P w = .ok (.tuple #[.agg cs.toArray, tmps.getD u undef, tmps.getD v undef]) w := by
  obtain ⟨t, hb⟩ := hb
  have hp' : tmps[p]?.getD undef = .pointer (some ⟨g, 0, none⟩) := by simpa using hp
  simp [results, h, hp', asAddr, run_loadVar_row w g t ty cs.toArray (0, 0) d hb hu hd (by simpa using hi), Sem.run_bind, Result.andThen]

theorem probe_store {P : Program} {ops : Array Oper} {rest : List Oper} {op : Oper} {a : Act} {w : World} {Q : Exit → Act → World → Prop} (ty : TypeId) (x y : Operand) (ho : op.op = .store ty x y) (h : wpList P ops Q (op :: rest) a w) : wpList P ops Q (op :: rest) a w := h
/-- a text of bytes -/
def toB (l : Lx.Bs) : ByteArray := ⟨l.toArray⟩
theorem toB_list (l : Lx.Bs) : (toB l).data.toList = l := rfl
theorem toB_size (l : Lx.Bs) : (toB l).size = l.length := by rw [← len_data, toB_list]
theorem extract_pre (s : ByteArray) (n : Nat) : s.extract 0 n = toB (s.data.toList.take n) := by
  apply ByteArray.ext
  apply Array.ext'
  rw [toB_list]
  simp [ByteArray.data_extract, Array.toList_extract, List.extract_eq_take_drop]
theorem extract_mid (s : ByteArray) (a b : Nat) : s.extract a b = toB ((s.data.toList.drop a).take (b - a)) := by
  apply ByteArray.ext
  apply Array.ext'
  rw [toB_list]
  simp [ByteArray.data_extract, Array.toList_extract, List.extract_eq_take_drop]
/-- a token's five cells -/
def tokC (k : Nat) (t : Lx.Bs) (x line col : Nat) : List Value := [.int .i64 k, .string (toB t), .int .i64 x, .int .i64 line, .int .i64 col]
def zT : List Value := [.int .i64 0, .string ⟨#[]⟩, .int .i64 0, .int .i64 0, .int .i64 0]
theorem zeroT : (Tryz.prog.info? 35).map (·.zero) = some (some (.agg zT.toArray)) := by kernel_rfl
theorem infoT : (Tryz.prog.info? 35).map (·.size) = some 5 := by kernel_rfl
theorem one_tok (k x a b : Int) (t : ByteArray) : ∀ u ∈ [Value.int .i64 k, .string t, .int .i64 x, .int .i64 a, .int .i64 b], u.oneCell' = true := by
  intro u hu
  simp only [List.mem_cons, List.not_mem_nil, or_false] at hu
  rcases hu with rfl | rfl | rfl | rfl | rfl <;> rfl
/-- what 'token' answers -/
def tokRes (A : Nat → Addr) : Lx.Res (Nat × Lx.Bs × Nat × Nat) → Ending → Prop
  | .ok (k, t, x, n), e => e = .returned (.tuple #[.agg (tokC k t x 0 0).toArray, .int .i64 n, .nilIface])
  | .bad m, e => ∃ (cs : List Value) (v : Int), cs.length = 5 ∧ (∀ u ∈ cs, u.oneCell' = true) ∧ e = .returned (.tuple #[.agg cs.toArray, .int .i64 v, errV (A (m - 1))])
def TokRet (A : Nat → Addr) (r : Lx.Res (Nat × Lx.Bs × Nat × Nat)) (w : World) (e : Ending) (w' : World) : Prop := tokRes A r e ∧ Below w.heap.size w w'
theorem inner_gives (w : World) : GivesB 69 #[] Lx.inner w := fun W b _ => (inner_any b W).mono fun e w' h => ⟨h.1, h.2 ▸ Below.refl _ _⟩
theorem inner_enters : ∀ args w, (callFunc 69 args).run Tryz.prog w = .ok (.enter 69 args) w := enters_of Tryz.func69 (by kernel_rfl) rfl
/-- the word, or the number, of so many bytes -/
def wordOf (l : Lx.Bs) (b : UInt8) (n : Nat) : Lx.Res (Nat × Lx.Bs × Nat × Nat) :=
  if Lx.figure b then match Lx.number (l.take n) with
    | .bad m => .bad m
    | .ok x => .ok (2, l.take n, x, n)
  else if 40 < n then .bad 3
  else .ok (1, l.take n, 0, n)

set_option maxHeartbeats 4000000 in
set_option maxRecDepth 100000 in
theorem word_any (A : Nat → Addr) (s : ByteArray) (w : World) (hv : Vars A w) (hs : s.size ≤ 50000) (h0 : 0 < s.size) :
    Calls Tryz.prog 70 #[.string s] w (TokRet A (wordOf s.data.toList s[0] (Lx.run Lx.inner s.data.toList)) w) := by
  have Hv := Lib.hid hv
  clear hv
  obtain ⟨l, hl⟩ : ∃ l, l = s.data.toList := ⟨_, rfl⟩
  have HR := Lib.hid (fun w0 => run_any s _ #[] Lx.inner w0 (by unfold maxLen; omega) (inner_gives w0) inner_enters)
  have hle := Lx.run_le Lx.inner s.data.toList
  rw [len_data] at hle
  rw [← hl] at HR hle ⊢
  have Hpre := Lib.hid (fun n => extract_pre s n)
  rw [← hl] at Hpre
  clear hl
  obtain ⟨n, hn⟩ : ∃ n, n = Lx.run Lx.inner l := ⟨_, rfl⟩
  rw [← hn] at HR hle ⊢
  have HF := Lib.hid (fun w0 => figure_any s[0] w0)
  have HN := Lib.hid (fun w0 (h : Vars A w0) => number_any A (toB (l.take n)) w0 h (by rw [toB_size, List.length_take]; omega))
  rw [toB_list] at HN
  unfold wordOf
  generalize Lx.figure s[0] = f at *
  clear hn
  cases f
  · simp only [Bool.false_eq_true, if_false]
    clear HN
    by_cases h40 : 40 < n
    · rw [if_pos h40]
      have h40z : (40 : Int) < (n : Int) := by omega
      clear h40
      go_enter Tryz.func70, Tryz.ntmps70
      go_upto_region 2 with (first
        | (refine wpList_alloc_lay rfl 35 rfl zT zeroT ?_; (intro w1 g1 hg1 hB1 hb1))
        | (go_at_call 65; (with_reducible refine (HR.out _).mono ?_); rintro e w2 ⟨rfl, hb2⟩; replace hB1 := hB1.below hb2 hB1.lt; replace hb1 := hb1.trans (hb2.mono hb1.size); clear hb2))
      go_upto_region 3 with (first
        | (refine wpList_alloc_lay rfl 35 rfl zT zeroT ?_; (intro w3 g3 hg3 hB3 hb3; have hne : Hid (g1 < g3) := Nat.lt_of_lt_of_le hB1.lt hg3; replace hB1 := hB1.below hb3 hB1.lt; replace hg3 := Nat.le_trans hb1.size hg3; replace hb1 := hb1.trans (hb3.mono hb1.size); clear hb3))
        | (refine wpList_store_all rfl 35 _ _ rfl g3 _ rfl rfl zT hB3 infoT rfl ?_ ?_; (· exact one_tok _ _ _ _ _); (intro w4 hB4 hgr; rw [Hpre.out] at hB4; replace hB1 := hB1.grown hgr (by have := hne.out; intro e; cases e; omega); replace hb1 := Below.grown hb1 hgr hb1.size (fun _ e => by cases e; exact hg3); clear hgr hB3)))
      have r1 : w4.cell? ⟨g3, 1, none⟩ = some (.string (toB (l.take n))) := hB4.cell (o := 1) rfl
      have Hv4 := Lib.hid (Hv.out.below hb1)
      have hne3 := Lib.hid (show g3 ≠ g1 from fun e => by have := hne.out; omega)
      go_simp
      obtain ⟨c0, c1, c2, c3, c4⟩ : w4.cell? ⟨g1, 0, none⟩ = some (.int .i64 0) ∧ w4.cell? ⟨g1, 1, none⟩ = some (.string ⟨#[]⟩) ∧ w4.cell? ⟨g1, 2, none⟩ = some (.int .i64 0) ∧ w4.cell? ⟨g1, 3, none⟩ = some (.int .i64 0) ∧ w4.cell? ⟨g1, 4, none⟩ = some (.int .i64 0) := ⟨hB1.cell rfl, hB1.cell rfl, hB1.cell rfl, hB1.cell rfl, hB1.cell rfl⟩
      have f0 := hB1.frozen 0; have f1 := hB1.frozen 1; have f2 := hB1.frozen 2; have f3 := hB1.frozen 3; have f4 := hB1.frozen 4
      have hlong := (Hv.out.below hb1).long
      unfold errV at hlong
      have hgl := Hv.out.lt.2.1
      have hgn1 : ¬ (g1 = 0) := by omega
      have hgn2 : ¬ (0 = g1) := by omega
      have HB1 := Lib.hid hB1; have Hb1 := Lib.hid hb1
      clear r1 hB1 hb1 hB4 hne3
      go_simp
      go_upto_region 8 with (first
        | (go_at_call 103; (with_reducible refine (HF.out _).mono ?_); rintro e w5 ⟨rfl, rfl⟩))
      go_region
      all_goals
        go_wp2
        have hBz := ((((HB1.out.setCell (o := 0) (.int .i64 0)).setCell (o := 1) (.string ⟨#[]⟩)).setCell (o := 2) (.int .i64 0)).setCell (o := 3) (.int .i64 0)).setCell (o := 4) (.int .i64 0)
        have hbz := (((((Hb1.out.setCell (p := ⟨g1, 0, none⟩) hg1 (.int .i64 0)).setCell (p := ⟨g1, 1, none⟩) hg1 (.string ⟨#[]⟩)).setCell (p := ⟨g1, 2, none⟩) hg1 (.int .i64 0)).setCell (p := ⟨g1, 3, none⟩) hg1 (.int .i64 0)).setCell (p := ⟨g1, 4, none⟩) hg1 (.int .i64 0)).drew
        refine bodyPost_ret (v := .tuple #[.agg zT.toArray, .int .i64 0, errV (A 2)]) ?_ rfl ⟨⟨zT, 0, rfl, one_tok _ _ _ _ _, rfl⟩, hbz⟩
        exact results_blk3 (p := 2) (u := 3) (v := 4) (ty := 35) rfl _ _ g1 zT rfl hBz _ Tryz.underlying35 rfl infoT
    · rw [if_neg h40]
      have h40z : (n : Int) ≤ 40 := by omega
      clear h40
      go_enter Tryz.func70, Tryz.ntmps70
      go_upto_region 2 with (first
        | (refine wpList_alloc_lay rfl 35 rfl zT zeroT ?_; (intro w1 g1 hg1 hB1 hb1))
        | (go_at_call 65; (with_reducible refine (HR.out _).mono ?_); rintro e w2 ⟨rfl, hb2⟩; replace hB1 := hB1.below hb2 hB1.lt; replace hb1 := hb1.trans (hb2.mono hb1.size); clear hb2))
      go_upto_region 3 with (first
        | (refine wpList_alloc_lay rfl 35 rfl zT zeroT ?_; (intro w3 g3 hg3 hB3 hb3; have hne : Hid (g1 < g3) := Nat.lt_of_lt_of_le hB1.lt hg3; replace hB1 := hB1.below hb3 hB1.lt; replace hg3 := Nat.le_trans hb1.size hg3; replace hb1 := hb1.trans (hb3.mono hb1.size); clear hb3))
        | (refine wpList_store_all rfl 35 _ _ rfl g3 _ rfl rfl zT hB3 infoT rfl ?_ ?_; (· exact one_tok _ _ _ _ _); (intro w4 hB4 hgr; rw [Hpre.out] at hB4; replace hB1 := hB1.grown hgr (by have := hne.out; intro e; cases e; omega); replace hb1 := Below.grown hb1 hgr hb1.size (fun _ e => by cases e; exact hg3); clear hgr hB3)))
      have r1 : w4.cell? ⟨g3, 1, none⟩ = some (.string (toB (l.take n))) := hB4.cell (o := 1) rfl
      have Hv4 := Lib.hid (Hv.out.below hb1)
      have hne3 := Lib.hid (show g3 ≠ g1 from fun e => by have := hne.out; omega)
      go_simp
      have r9 : w4.rangeAt g3 0 (tokC 1 (l.take n) 0 0 0) := hB4.whole
      clear r1
      go_simp
      go_wp2_with (first
        | (go_at_call 103; (with_reducible refine (HF.out _).mono ?_); rintro e w5 ⟨rfl, rfl⟩)
        | (refine wpList_load_seg rfl 35 _ rfl _ _ rfl _ _ r9 Tryz.underlying35 rfl infoT ?_)
        | (refine wpList_store_all rfl 35 _ _ rfl g1 _ rfl rfl zT hB1 infoT rfl ?_ ?_; (· exact one_tok _ _ _ _ _); (intro w9 hB9 hgr; replace hb1 := Below.grown hb1 hgr hb1.size (fun _ e => by cases e; exact hg1); clear hgr r9)))
      refine bodyPost_ret (v := .tuple #[.agg (tokC 1 (l.take n) 0 0 0).toArray, .int .i64 n, .nilIface]) ?_ rfl ⟨rfl, hb1⟩
      exact results_blk3 (p := 2) (u := 3) (v := 4) (ty := 35) rfl _ _ g1 _ rfl hB9 _ Tryz.underlying35 rfl infoT
  · simp only [if_true]
    cases hnum : Lx.number (l.take n) with
    | bad m =>
      rw [hnum] at HN
      replace HN : Hid (∀ w0, Vars A w0 → Calls Tryz.prog 104 #[.string (toB (l.take n))] w0 fun e w' => e = .returned (.tuple #[.int .i64 0, errV (A (m - 1))]) ∧ Below w0.heap.size w0 w') := HN
      clear hnum
      go_enter Tryz.func70, Tryz.ntmps70
      go_upto_region 2 with (first
        | (refine wpList_alloc_lay rfl 35 rfl zT zeroT ?_; (intro w1 g1 hg1 hB1 hb1))
        | (go_at_call 65; (with_reducible refine (HR.out _).mono ?_); rintro e w2 ⟨rfl, hb2⟩; replace hB1 := hB1.below hb2 hB1.lt; replace hb1 := hb1.trans (hb2.mono hb1.size); clear hb2))
      go_upto_region 3 with (first
        | (refine wpList_alloc_lay rfl 35 rfl zT zeroT ?_; (intro w3 g3 hg3 hB3 hb3; have hne : Hid (g1 < g3) := Nat.lt_of_lt_of_le hB1.lt hg3; replace hB1 := hB1.below hb3 hB1.lt; replace hg3 := Nat.le_trans hb1.size hg3; replace hb1 := hb1.trans (hb3.mono hb1.size); clear hb3))
        | (refine wpList_store_all rfl 35 _ _ rfl g3 _ rfl rfl zT hB3 infoT rfl ?_ ?_; (· exact one_tok _ _ _ _ _); (intro w4 hB4 hgr; rw [Hpre.out] at hB4; replace hB1 := hB1.grown hgr (by have := hne.out; intro e; cases e; omega); replace hb1 := Below.grown hb1 hgr hb1.size (fun _ e => by cases e; exact hg3); clear hgr hB3)))
      have r1 : w4.cell? ⟨g3, 1, none⟩ = some (.string (toB (l.take n))) := hB4.cell (o := 1) rfl
      have Hv4 := Lib.hid (Hv.out.below hb1)
      have hne3 := Lib.hid (show g3 ≠ g1 from fun e => by have := hne.out; omega)
      go_simp
      go_upto_region 5 with (first
        | (go_at_call 103; (with_reducible refine (HF.out _).mono ?_); rintro e w5 ⟨rfl, rfl⟩)
        | (go_at_call 104; (with_reducible refine (HN.out _ Hv4.out).mono ?_); rintro e w6 ⟨rfl, hb6⟩; have hB6 := hB4.below hb6 hB4.lt; replace hB1 := hB1.below hb6 hB1.lt; replace hb1 := hb1.trans (hb6.mono hb1.size); clear hb6 hB4 r1))
      go_simp
      go_wp2_with (first
        | (refine wpList_store_blk1 rfl 3 (.tmp 25) (.const (.int .i64 2)) rfl g3 0 (.int .i64 2) rfl rfl _ hB6 rfl ?_ rfl ?_; (· show 0 + 1 ≤ 5; decide); (intro w7 hB7 hgr hsz; replace hB1 := hB1.grown hgr (by have := hne3.out; intro e; cases e; exact this rfl); replace hb1 := Below.grown hb1 hgr hb1.size (fun _ e => by cases e; exact hg3); clear hgr hsz hB6))
        | (refine wpList_store_blk1 rfl 3 (.tmp 26) (.tmp 24) rfl g3 2 (.int .i64 0) rfl rfl _ hB7 rfl ?_ rfl ?_; (· show 2 + 1 ≤ 5; decide); (intro w8 hB8 hgr hsz; replace hB1 := hB1.grown hgr (by have := hne3.out; intro e; cases e; exact this rfl); replace hb1 := Below.grown hb1 hgr hb1.size (fun _ e => by cases e; exact hg3); have r9 : w8.rangeAt g3 0 (tokC 2 (l.take n) 0 0 0) := hB8.whole; clear hgr hsz hB7 hB8))
        | (refine wpList_load_seg rfl 35 _ rfl _ _ rfl _ _ r9 Tryz.underlying35 rfl infoT ?_)
        | (refine wpList_store_all rfl 35 _ _ rfl g1 _ rfl rfl zT hB1 infoT rfl ?_ ?_; (· exact one_tok _ _ _ _ _); (intro w9 hB9 hgr; replace hb1 := Below.grown hb1 hgr hb1.size (fun _ e => by cases e; exact hg1); clear hgr r9)))
      refine bodyPost_ret (v := .tuple #[.agg (tokC 2 (l.take n) 0 0 0).toArray, .int .i64 n, errV (A (m - 1))]) ?_ rfl ⟨⟨_, _, rfl, one_tok _ _ _ _ _, rfl⟩, hb1⟩
      exact results_blk3 (p := 2) (u := 3) (v := 4) (ty := 35) rfl _ _ g1 _ rfl hB9 _ Tryz.underlying35 rfl infoT

    | ok x =>
      rw [hnum] at HN
      replace HN : Hid (∀ w0, Vars A w0 → Calls Tryz.prog 104 #[.string (toB (l.take n))] w0 fun e w' => e = .returned (.tuple #[.int .i64 x, .nilIface]) ∧ Below w0.heap.size w0 w') := HN
      clear hnum
      go_enter Tryz.func70, Tryz.ntmps70
      go_upto_region 2 with (first
        | (refine wpList_alloc_lay rfl 35 rfl zT zeroT ?_; (intro w1 g1 hg1 hB1 hb1))
        | (go_at_call 65; (with_reducible refine (HR.out _).mono ?_); rintro e w2 ⟨rfl, hb2⟩; replace hB1 := hB1.below hb2 hB1.lt; replace hb1 := hb1.trans (hb2.mono hb1.size); clear hb2))
      go_upto_region 3 with (first
        | (refine wpList_alloc_lay rfl 35 rfl zT zeroT ?_; (intro w3 g3 hg3 hB3 hb3; have hne : Hid (g1 < g3) := Nat.lt_of_lt_of_le hB1.lt hg3; replace hB1 := hB1.below hb3 hB1.lt; replace hg3 := Nat.le_trans hb1.size hg3; replace hb1 := hb1.trans (hb3.mono hb1.size); clear hb3))
        | (refine wpList_store_all rfl 35 _ _ rfl g3 _ rfl rfl zT hB3 infoT rfl ?_ ?_; (· exact one_tok _ _ _ _ _); (intro w4 hB4 hgr; rw [Hpre.out] at hB4; replace hB1 := hB1.grown hgr (by have := hne.out; intro e; cases e; omega); replace hb1 := Below.grown hb1 hgr hb1.size (fun _ e => by cases e; exact hg3); clear hgr hB3)))
      have r1 : w4.cell? ⟨g3, 1, none⟩ = some (.string (toB (l.take n))) := hB4.cell (o := 1) rfl
      have Hv4 := Lib.hid (Hv.out.below hb1)
      have hne3 := Lib.hid (show g3 ≠ g1 from fun e => by have := hne.out; omega)
      go_simp
      go_upto_region 5 with (first
        | (go_at_call 103; (with_reducible refine (HF.out _).mono ?_); rintro e w5 ⟨rfl, rfl⟩)
        | (go_at_call 104; (with_reducible refine (HN.out _ Hv4.out).mono ?_); rintro e w6 ⟨rfl, hb6⟩; have hB6 := hB4.below hb6 hB4.lt; replace hB1 := hB1.below hb6 hB1.lt; replace hb1 := hb1.trans (hb6.mono hb1.size); clear hb6 hB4 r1))
      go_simp
      go_wp2_with (first
        | (refine wpList_store_blk1 rfl 3 (.tmp 25) (.const (.int .i64 2)) rfl g3 0 (.int .i64 2) rfl rfl _ hB6 rfl ?_ rfl ?_; (· show 0 + 1 ≤ 5; decide); (intro w7 hB7 hgr hsz; replace hB1 := hB1.grown hgr (by have := hne3.out; intro e; cases e; exact this rfl); replace hb1 := Below.grown hb1 hgr hb1.size (fun _ e => by cases e; exact hg3); clear hgr hsz hB6))
        | (refine wpList_store_blk1 rfl 3 (.tmp 26) (.tmp 24) rfl g3 2 (.int .i64 x) rfl rfl _ hB7 rfl ?_ rfl ?_; (· show 2 + 1 ≤ 5; decide); (intro w8 hB8 hgr hsz; replace hB1 := hB1.grown hgr (by have := hne3.out; intro e; cases e; exact this rfl); replace hb1 := Below.grown hb1 hgr hb1.size (fun _ e => by cases e; exact hg3); have r9 : w8.rangeAt g3 0 (tokC 2 (l.take n) x 0 0) := hB8.whole; clear hgr hsz hB7 hB8))
        | (refine wpList_load_seg rfl 35 _ rfl _ _ rfl _ _ r9 Tryz.underlying35 rfl infoT ?_)
        | (refine wpList_store_all rfl 35 _ _ rfl g1 _ rfl rfl zT hB1 infoT rfl ?_ ?_; (· exact one_tok _ _ _ _ _); (intro w9 hB9 hgr; replace hb1 := Below.grown hb1 hgr hb1.size (fun _ e => by cases e; exact hg1); clear hgr r9)))
      refine bodyPost_ret (v := .tuple #[.agg (tokC 2 (l.take n) x 0 0).toArray, .int .i64 n, .nilIface]) ?_ rfl ⟨rfl, hb1⟩
      exact results_blk3 (p := 2) (u := 3) (v := 4) (ty := 35) rfl _ _ g1 _ rfl hB9 _ Tryz.underlying35 rfl infoT

end Go.Proofs.YtiofhfcohhfihaaGreatDoor
