/- The law's first look at package scopes, walked. -/
import Derived.Test.YtiofhfcohhfihaaGreatDoorGroupE
namespace Go.Proofs.YtiofhfcohhfihaaGreatDoor
open Go.RowKit
set_option linter.unusedVariables false
set_option linter.unusedSimpArgs false

def nl : Value := .slice none 0 0
def mN : List Value := [.string (toB [78]), nl, nl, nl, nl, nl, nl, .int .i64 (0 : Nat), .int .i64 (0 : Nat)]
def mM (g : Nat) : List Value := [.string (toB [77]), nl, nl, .slice (some ⟨g, 0, none⟩) 1 1, nl, nl, nl, .int .i64 (0 : Nat), .int .i64 (0 : Nat)]
def exN : Sx.Msg := .mk [78] [] [] [] [] [] [] 0 0
def exM : Sx.Msg := .mk [77] [] [] [exN] [] [] [] 0 0
def exF : Sx.Fil := ⟨[112], [exM, exN], []⟩
def tM : Sc.Ty := ⟨[112, 46, 77], false, 0, 0, 0⟩
def tMN : Sc.Ty := ⟨[112, 46, 77, 46, 78], false, 1, 0, 0⟩
def tN : Sc.Ty := ⟨[112, 46, 78], false, 2, 0, 0⟩
theorem ex_table : Sc.table exF = ([tM, tMN, tN], none) := by
  have h1 : Sc.raws exF = [⟨[112, 46, 77], false, 0, 0⟩, ⟨[112, 46, 77, 46, 78], false, 0, 0⟩, ⟨[112, 46, 78], false, 0, 0⟩] := by
    simp [Sc.raws, exF, exM, exN, Sc.rawMs, Sc.rawM, Sc.rawEs, Sc.within]
  unfold Sc.table
  rw [h1]
  decide
theorem ex_look1 : Sc.Look [tM, tMN, tN] [112, 46, 77] [78] = some tMN := by decide
theorem ex_look2 : Sc.Look [tM, tMN, tN] [112] [78] = some tN := by decide
theorem ex_uniq : Sc.Uniq [tM, tMN, tN] := by unfold Sc.Uniq Sc.fulls; decide
theorem ex_deep : Sx.DeepF exF := by
  refine ⟨by decide, fun e he => by simp [exF] at he, fun m hm => ?_⟩
  have hN : ∀ n, Sx.DeepM (n + 1) exN := fun n => ⟨by decide, fun e he => by simp at he, fun k hk => by simp at hk⟩
  have hM : Sx.DeepM 8 exM := ⟨by decide, fun e he => by simp at he, fun k hk => by
    rw [List.mem_singleton.1 hk]; exact hN 6⟩
  simp only [exF, List.mem_cons, List.not_mem_nil, or_false] at hm
  rcases hm with rfl | rfl
  · exact hM
  · exact hN 7
theorem mN_build (w : World) : (Instr.build 47 #[(0, .string ⟨#[78]⟩)]).run Tryz.prog w = .ok (.agg mN.toArray) w := by kernel_rfl
theorem mM_build (g : Nat) (w : World) : (Instr.build 47 #[(0, .string ⟨#[77]⟩), (3, .slice (some ⟨g, 0, none⟩) 1 1)]).run Tryz.prog w = .ok (.agg (mM g).toArray) w := by kernel_rfl
theorem ms2_build (g : Nat) (w : World) : (Instr.buildSlice 28 2 #[(0, .agg (mM g).toArray), (1, .agg mN.toArray)]).run Tryz.prog w = .ok (.slice (some ⟨w.heap.size, 0, none⟩) 2 2) (w.alloc (.cells (mM g ++ mN).toArray 47)) := by kernel_rfl
theorem fl_build (g : Nat) (w : World) : (Instr.build 31 #[(0, .string ⟨#[112]⟩), (1, .slice (some ⟨g, 0, none⟩) 2 2)]).run Tryz.prog w = .ok (.agg #[.string (toB [112]), .slice (some ⟨g, 0, none⟩) 2 2, nl]) w := by kernel_rfl
theorem info2SM : (Tryz.prog.info? 47).map (fun i => (i.size, i.zero.map (fun z => z.cells.size))) = some (9, some 9) := by kernel_rfl
theorem hrow_of_blk {w : World} {g : Nat} {cs : List Value} (h : Blk w g cs) : HRow (frag w) (some ⟨g, 0, none⟩) cs := by
  obtain ⟨t, h⟩ := h
  exact .inr ⟨g, 0, cs.toArray, t, (0, 0), rfl, h, fun i hi => by rw [Nat.zero_add]; simp⟩
theorem exN_R (h : Frag) : MsgR h exN mN := by
  unfold exN
  rw [MsgR]
  exact ⟨nl, nl, nl, nl, nl, nl, [], [], rfl, ⟨⟨⟨none, 0, rfl, Nat.le_refl _, Nat.zero_le _, fun _ => rfl, .inl rfl⟩, by decide⟩, ⟨⟨none, 0, rfl, Nat.le_refl _, Nat.zero_le _, fun _ => rfl, .inl rfl⟩, by decide⟩, FlatD.nil _ _, FlatD.nil _ _, ⟨⟨none, 0, rfl, Nat.le_refl _, Nat.zero_le _, fun _ => rfl, .inl rfl⟩, by decide⟩, ⟨⟨none, 0, rfl, Nat.le_refl _, Nat.zero_le _, fun _ => rfl, .inl rfl⟩, by decide⟩⟩, by rw [MsgsR], by rw [EnsR]⟩
theorem exM_R {w : World} {g : Nat} (h : Blk w g mN) : MsgR (frag w) exM (mM g) := by
  unfold exM
  rw [MsgR]
  refine ⟨nl, nl, .slice (some ⟨g, 0, none⟩) 1 1, nl, nl, nl, [mN], [], rfl, ⟨⟨⟨none, 0, rfl, Nat.le_refl _, Nat.zero_le _, fun _ => rfl, .inl rfl⟩, by decide⟩, ⟨⟨none, 0, rfl, Nat.le_refl _, Nat.zero_le _, fun _ => rfl, .inl rfl⟩, by decide⟩, ⟨⟨some ⟨g, 0, none⟩, 1, rfl, by decide, by unfold maxLen; decide, (fun e => by cases e), ?_, fun e he => by rw [List.mem_singleton.1 he]; rfl⟩, by decide⟩, FlatD.nil _ _, ⟨⟨none, 0, rfl, Nat.le_refl _, Nat.zero_le _, fun _ => rfl, .inl rfl⟩, by decide⟩, ⟨⟨none, 0, rfl, Nat.le_refl _, Nat.zero_le _, fun _ => rfl, .inl rfl⟩, by decide⟩⟩, ?_, by rw [EnsR]⟩
  · rw [List.flatten_cons, List.flatten_nil, List.append_nil]; exact hrow_of_blk h
  · rw [MsgsR]; exact ⟨mN, [], rfl, exN_R _, by rw [MsgsR]⟩
theorem exF_R {w : World} {g1 g2 : Nat} (h1 : Blk w g1 mN) (h2 : Blk w g2 (mM g1 ++ mN)) : FilR (frag w) exF [.string (toB [112]), .slice (some ⟨g2, 0, none⟩) 2 2, nl] := by
  refine ⟨.slice (some ⟨g2, 0, none⟩) 2 2, nl, [mM g1, mN], [], rfl, ⟨⟨⟨some ⟨g2, 0, none⟩, 2, rfl, Nat.le_refl 2, by unfold maxLen; decide, (fun e => by cases e), ?_, fun e he => ?_⟩, (show 2 ≤ 10000 by decide)⟩, FlatD.nil _ _⟩, ?_, by rw [exF, EnsR]⟩
  · rw [List.flatten_cons, List.flatten_cons, List.flatten_nil, List.append_nil]; exact hrow_of_blk h2
  · simp only [List.mem_cons, List.not_mem_nil, or_false] at he
    rcases he with rfl | rfl <;> rfl
  · show MsgsR (frag w) [exM, exN] _
    rw [MsgsR]
    refine ⟨mM g1, [mN], rfl, exM_R h1, ?_⟩
    rw [MsgsR]; exact ⟨mN, [], rfl, exN_R _, by rw [MsgsR]⟩
theorem fl_one (g : Nat) : ∀ u ∈ ([.string (toB [112]), .slice (some ⟨g, 0, none⟩) 2 2, nl] : List Value), u.oneCell' = true := by
  intro u hu; simp only [List.mem_cons, List.not_mem_nil, or_false] at hu
  rcases hu with rfl | rfl | rfl <;> rfl

theorem ex_two (w w3 : World) (g3 : Nat) (hg3 : ((w.alloc (.cells mN.toArray 47)).alloc (.cells (mM w.heap.size ++ mN).toArray 47)).heap.size ≤ g3)
    (hb3 : Below ((w.alloc (.cells mN.toArray 47)).alloc (.cells (mM w.heap.size ++ mN).toArray 47)).heap.size ((w.alloc (.cells mN.toArray 47)).alloc (.cells (mM w.heap.size ++ mN).toArray 47)) w3) :
    Blk w3 w.heap.size mN ∧ Blk w3 (w.heap.size + 1) (mM w.heap.size ++ mN) ∧ Below w.heap.size w w3 ∧ w.heap.size + 2 ≤ g3 := by
  have e1 : (w.alloc (.cells mN.toArray 47)).heap.size = w.heap.size + 1 := by simp
  have e2 : ((w.alloc (.cells mN.toArray 47)).alloc (.cells (mM w.heap.size ++ mN).toArray 47)).heap.size = w.heap.size + 2 := by simp
  have h1 := (Blk.new w 47 mN).alloc (.cells (mM w.heap.size ++ mN).toArray 47)
  have h2 := Blk.new (w.alloc (.cells mN.toArray 47)) 47 (mM w.heap.size ++ mN)
  rw [e1] at h2
  have h3 : Below w.heap.size w ((w.alloc (.cells mN.toArray 47)).alloc (.cells (mM w.heap.size ++ mN).toArray 47)) := ((Below.refl w.heap.size w).alloc (Nat.le_refl _) _).alloc (by simp) _
  exact ⟨h1.below hb3 (by omega), h2.below hb3 (by omega), h3.trans (hb3.mono (by omega)), by omega⟩

theorem ex_all : ∃ (l : List Sc.Ty) (t1 t2 : Sc.Ty), Sc.table exF = (l, none) ∧ Sc.Uniq l ∧ l.length ≤ 40 ∧ Sc.Look l [112, 46, 77] [78] = some t1 ∧ Sc.Look l [112] [78] = some t2 ∧
    ((toB t1.full).toList == [112, 46, 77, 46, 78]) = true ∧ ((toB t2.full).toList == [112, 46, 78]) = true ∧ ((t1.index : Int) == 1) = true ∧ ((t2.index : Int) == 2) = true :=
  ⟨_, _, _, ex_table, ex_uniq, by decide, ex_look1, ex_look2, by rw [Lib.toList_data, toB_list]; decide, by rw [Lib.toList_data, toB_list]; decide, by decide, by decide⟩
theorem alive_look (w0 : World) (g : Nat) (l : List Sc.Ty) (w : World) (hT : Tab w0 g [] l w) (hU : Sc.Uniq l) (hl : l.length ≤ 40) {t1 : Sc.Ty} (h1 : Sc.Look l [112, 46, 77] [78] = some t1) :
    Calls Tryz.prog 21 #[.pointer (some ⟨g, 0, none⟩), .string ⟨#[112, 46, 77]⟩, .string ⟨#[78]⟩] w fun e w' => e = .returned (.tuple #[.agg (tyC t1).toArray, .bool true]) ∧ Below w.heap.size w w' := by
  have h := look_any w0 g [] l [112, 46, 77] [78] w hT hU hl (by decide) (by decide)
  rw [h1] at h
  exact h
theorem alive_look2 (w0 : World) (g : Nat) (l : List Sc.Ty) (w : World) (hT : Tab w0 g [] l w) (hU : Sc.Uniq l) (hl : l.length ≤ 40) {t1 : Sc.Ty} (h1 : Sc.Look l [112] [78] = some t1) :
    Calls Tryz.prog 21 #[.pointer (some ⟨g, 0, none⟩), .string ⟨#[112]⟩, .string ⟨#[78]⟩] w fun e w' => e = .returned (.tuple #[.agg (tyC t1).toArray, .bool true]) ∧ Below w.heap.size w w' := by
  have h := look_any w0 g [] l [112] [78] w hT hU hl (by decide) (by decide)
  rw [h1] at h
  exact h

set_option maxHeartbeats 4000000 in
set_option maxRecDepth 100000 in
theorem alive09 (A : Nat → Addr) (w : World) (hV : VarsU A w) : Calls Tryz.prog 18 #[] w fun e w' => e = .returned (.bool true) ∧ Below w.heap.size w w' := by
  have HV := Lib.hid hV
  have hb3 := ms2_build
  clear hV
  go_enter Tryz.func18, Tryz.ntmps18
  go_upto_region 2 with (first
    | (refine wpList_buildSlice1 rfl 28 47 _ rfl mN (.agg mN.toArray) rfl Tryz.underlying28 info2SM (show 0 < 9 by decide) (show 9 ≤ 1000 by decide) rfl ?_)
    | (refine wpList_alloc_lay rfl 31 rfl zFl zeroFl ?_; (intro w3 g3 hg3 hB3 hb3'; have H2 := Lib.hid (ex_two w w3 g3 hg3 hb3'); clear hg3 hb3'))
    | (refine wpList_store_all rfl 31 _ _ rfl g3 [.string (toB [112]), .slice (some ⟨w.heap.size + 1, 0, none⟩) 2 2, nl] rfl rfl zFl hB3 infoFl rfl (fl_one _) ?_; (intro w4 hB4 hgr4)))
  have hFR : FilR (frag w4) exF [.string (toB [112]), .slice (some ⟨w.heap.size + 1, 0, none⟩) 2 2, nl] :=
    exF_R (H2.out.1.grown hgr4 (fun e => by cases e; have := H2.out.2.2.2; omega)) (H2.out.2.1.grown hgr4 (fun e => by cases e; have := H2.out.2.2.2; omega))
  have Hb4 : Hid (Below w.heap.size w w4) := Lib.hid (Below.grown H2.out.2.2.1 hgr4 H2.out.2.2.1.size (fun k e => by cases e; have := H2.out.2.2.2; omega))
  have HS := Lib.hid (scopes_of_any A exF _ w4 (HV.out.keep Hb4.out) ex_deep hFR)
  have hW4 := hB4.whole
  obtain ⟨l, t1, t2, hta, hU, hl, hk1, hk2, q1, q2, q3, q4⟩ := ex_all
  have HU := Lib.hid hU; have Hl := Lib.hid hl; have Hk1 := Lib.hid hk1; have Hk2 := Lib.hid hk2
  rw [hta] at HS
  unfold ScopePost at HS
  dsimp only at HS
  have Hone : Hid (([.string (toB [112]), .slice (some ⟨w.heap.size + 1, 0, none⟩) 2 2, nl] : List Value).length = 3) := Lib.hid rfl
  clear hb3 hgr4 hFR H2 hta hU hl hk1 hk2
  generalize ([.string (toB [112]), .slice (some ⟨w.heap.size + 1, 0, none⟩) 2 2, nl] : List Value) = cs at *
  go_upto_region 3 with (first
    | (refine wpList_load_seg rfl 31 _ rfl _ _ rfl _ _ hW4 Tryz.underlying31 rfl ?_ ?_; (· rw [Hone.out]; exact infoFl))
    | (go_at_call 19; (with_reducible refine HS.out.mono ?_); rintro e w5 ⟨hb5, g5, rfl, hT5⟩))
  have HT5 := Lib.hid hT5; have Hb5 := Lib.hid (Hb4.out.trans (hb5.mono Hb4.out.size))
  have HL1 := Lib.hid (alive_look w4 g5 l w5 hT5 HU.out Hl.out Hk1.out)
  clear hT5 hb5
  go_upto_region 6 with (first
    | (go_at_call 21; (with_reducible refine HL1.out.mono ?_); rintro e w6 ⟨rfl, hb6⟩; have HT6 := Lib.hid (HT5.out.keep hb6); have Hb6 := Lib.hid (Hb5.out.trans (hb6.mono Hb5.out.size)); clear hb6)
    | (refine wpList_alloc_lay rfl 59 rfl zTy zeroTy ?_; (intro w7 g7 hg7 hB7 hb7))
    | (refine wpList_store_all rfl 59 _ _ rfl g7 (tyC t1) rfl rfl zTy hB7 infoTy rfl (one_tyC _) ?_; (intro w8 hB8 hgr8; have hb8 := Below.grown hb7 hgr8 hb7.size (fun _ e => by cases e; exact hg7); clear hb7 hgr8 hB7 hg7)))
  have HT8 := Lib.hid (HT6.out.keep hb8)
  have Hb8 := Lib.hid (Hb6.out.trans (hb8.mono Hb6.out.size))
  have HB8 := Lib.hid hB8
  have HL2 := Lib.hid (alive_look2 w4 g5 l w8 HT8.out HU.out Hl.out Hk2.out)
  clear hb8 hB8
  go_upto_region 7 with (first
    | (go_at_call 21; (with_reducible refine HL2.out.mono ?_); rintro e w9 ⟨rfl, hb9⟩; have HB9 := Lib.hid (HB8.out.below hb9 HB8.out.lt); have Hb9 := Lib.hid (Hb8.out.trans (hb9.mono Hb8.out.size)); clear hb9)
    | (refine wpList_alloc_lay rfl 59 rfl zTy zeroTy ?_; (intro w10 g10 hg10 hB10 hb10))
    | (refine wpList_store_all rfl 59 _ _ rfl g10 (tyC t2) rfl rfl zTy hB10 infoTy rfl (one_tyC _) ?_; (intro w11 hB11 hgr11; have hb11 := Below.grown hb10 hgr11 hb10.size (fun _ e => by cases e; exact hg10))))
  have hB9' := HB9.out.below hb11 HB9.out.lt
  have Hb11 := Lib.hid (Hb9.out.trans (hb11.mono Hb9.out.size))
  have x0 : w11.cell? ⟨g7, 0, none⟩ = some (.string (toB t1.full)) := hB9'.cell (o := 0) rfl
  have x2 : w11.cell? ⟨g7, 2, none⟩ = some (.int .i64 t1.index) := hB9'.cell (o := 2) rfl
  have y0 : w11.cell? ⟨g10, 0, none⟩ = some (.string (toB t2.full)) := hB11.cell (o := 0) rfl
  have y2 : w11.cell? ⟨g10, 2, none⟩ = some (.int .i64 t2.index) := hB11.cell (o := 2) rfl
  clear hB9' hB11 hb11 hgr11 hB10 hb10 hg10
  go_wp2_with fail
  go_ret
  exact ⟨rfl, Hb11.out⟩

end Go.Proofs.YtiofhfcohhfihaaGreatDoor
