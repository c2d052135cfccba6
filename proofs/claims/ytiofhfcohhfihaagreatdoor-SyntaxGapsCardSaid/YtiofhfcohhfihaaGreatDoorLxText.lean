/- Package lexer, walked: texts in marks; one token. -/
import Derived.Test.YtiofhfcohhfihaaGreatDoorLxWord
namespace Go.Proofs.YtiofhfcohhfihaaGreatDoor
open Go.RowKit
set_option linter.unusedVariables false
set_option linter.unusedSimpArgs false

/-- what is known of a block of zeros -/
structure ZB (w : World) (g : Nat) : Prop where
  c0 : w.cell? ⟨g, 0, none⟩ = some (.int .i64 0)
  c1 : w.cell? ⟨g, 1, none⟩ = some (.string ⟨#[]⟩)
  c2 : w.cell? ⟨g, 2, none⟩ = some (.int .i64 0)
  c3 : w.cell? ⟨g, 3, none⟩ = some (.int .i64 0)
  c4 : w.cell? ⟨g, 4, none⟩ = some (.int .i64 0)
  f0 : w.frozen? ⟨g, 0, none⟩ = false
  f1 : w.frozen? ⟨g, 1, none⟩ = false
  f2 : w.frozen? ⟨g, 2, none⟩ = false
  f3 : w.frozen? ⟨g, 3, none⟩ = false
  f4 : w.frozen? ⟨g, 4, none⟩ = false
theorem ZB.of {w : World} {g : Nat} (h : Blk w g zT) : ZB w g := ⟨h.cell rfl, h.cell rfl, h.cell rfl, h.cell rfl, h.cell rfl, h.frozen 0, h.frozen 1, h.frozen 2, h.frozen 3, h.frozen 4⟩
def zSet (w : World) (g : Nat) : World := ((((w.setCell ⟨g, 0, none⟩ (.int .i64 0)).setCell ⟨g, 1, none⟩ (.string ⟨#[]⟩)).setCell ⟨g, 2, none⟩ (.int .i64 0)).setCell ⟨g, 3, none⟩ (.int .i64 0)).setCell ⟨g, 4, none⟩ (.int .i64 0)
theorem zSet_blk {w : World} {g : Nat} (h : Blk w g zT) : Blk (zSet w g) g zT := ((((h.setCell (o := 0) (.int .i64 0)).setCell (o := 1) (.string ⟨#[]⟩)).setCell (o := 2) (.int .i64 0)).setCell (o := 3) (.int .i64 0)).setCell (o := 4) (.int .i64 0)
theorem zSet_below {B : Nat} {a w : World} {g : Nat} (h : Below B a w) (hg : B ≤ g) : Below B a (zSet w g) :=
  ((((h.setCell (p := ⟨g, 0, none⟩) hg (.int .i64 0)).setCell (p := ⟨g, 1, none⟩) hg (.string ⟨#[]⟩)).setCell (p := ⟨g, 2, none⟩) hg (.int .i64 0)).setCell (p := ⟨g, 3, none⟩) hg (.int .i64 0)).setCell (p := ⟨g, 4, none⟩) hg (.int .i64 0)
theorem tok_bad {A : Nat → Addr} {m : Nat} {cs : List Value} {v : Int} {e : Ending} (h1 : cs.length = 5) (h2 : ∀ u ∈ cs, u.oneCell' = true) (he : e = .returned (.tuple #[.agg cs.toArray, .int .i64 v, errV (A (m - 1))])) : tokRes A (.bad m) e := ⟨cs, v, h1, h2, he⟩

/-- the text behind a mark -/
def textOf (b : UInt8) (r : Lx.Bs) : Lx.Res (Nat × Lx.Bs × Nat × Nat) := match Lx.idx1 b r with
  | none => .bad 9
  | some n => if (r.take n).any (fun c => c == 92 || c == 10) then .bad 9 else .ok (3, r.take n, 0, n + 2)

set_option maxHeartbeats 4000000 in
set_option maxRecDepth 100000 in
theorem text_any (A : Nat → Addr) (s : ByteArray) (w : World) (hv : Vars A w) (hs : s.size ≤ 50000) (h0 : 0 < s.size) :
    Calls Tryz.prog 71 #[.string s] w (TokRet A (textOf s[0] (s.data.toList.drop 1)) w) := by
  have Hv := Lib.hid hv
  have h0z : (0 : Int) < (s.size : Int) := by omega
  have HX := Lib.hid (fun w0 => idxbyte_any (s.extract 1 s.size) s[0] w0)
  have hlist : (s.extract 1 s.size).data.toList = s.data.toList.drop 1 := by rw [extract_rest]; rfl
  rw [hlist, idx1_index] at HX
  have HC := Lib.hid (fun (n : Nat) w0 => containsany_any (s.extract 1 (n + 1)) w0)
  have hll : (s.data.toList.drop 1).length = s.size - 1 := by rw [List.length_drop, len_data]
  have Hmid := Lib.hid (fun (n : Nat) => (extract_mid s 1 (n + 1)).trans (by rw [Nat.add_sub_cancel]))
  generalize s.data.toList.drop 1 = r at *
  clear hv hlist
  have hgl := Hv.out.lt.2.2.1
  unfold textOf
  cases hi : Lx.idx1 s[0] r with
  | none =>
    rw [hi] at HX
    replace HX : Hid (∀ w0, Calls Tryz.prog 67 #[.string (s.extract 1 s.size), .int .u8 s[0].toNat] w0 fun e w' => e = .returned (.int .i64 (-1)) ∧ w0 = w') := HX
    clear hi
    simp only
    go_enter Tryz.func71, Tryz.ntmps71
    go_upto_region 1 with (first
      | (refine wpList_alloc_lay rfl 35 rfl zT zeroT ?_; (intro w1 g1 hg1 hB1 hb1)))
    go_quiet ((go_at_call 67; exact Calls.quiet_of_same ((HX.out _).mono fun e w1 h => ⟨h.1, h.2.symm⟩)))
    generalize hw2 : w1.drewN nq = w2
    have hb2 : Below w.heap.size w w2 := by rw [← hw2]; exact Below.drewN hb1 _
    have hB2 : Blk w2 g1 zT := by rw [← hw2]; exact hB1
    have hform := (Hv.out.below hb2).form
    unfold errV at hform
    obtain ⟨c0, c1, c2, c3, c4, f0, f1, f2, f3, f4⟩ := ZB.of hB2
    have hgn1 : ¬ (g1 = 1) := by omega
    have hgn2 : ¬ (1 = g1) := by omega
    have HB2 := Lib.hid hB2; have Hb2 := Lib.hid hb2
    clear hw2 hB2 hb2 hB1 hb1
    go_upto_region 3 with (fail)
    go_region
    all_goals
      go_wp2
      refine bodyPost_ret (v := .tuple #[.agg zT.toArray, .int .i64 0, errV (A 8)]) ?_ rfl ⟨tok_bad rfl (one_tok _ _ _ _ _) rfl, (zSet_below Hb2.out hg1).drew⟩
      exact results_blk3 (p := 2) (u := 3) (v := 4) (ty := 35) rfl _ _ g1 zT rfl (zSet_blk HB2.out) _ Tryz.underlying35 rfl infoT
  | some n =>
    rw [hi] at HX
    replace HX : Hid (∀ w0, Calls Tryz.prog 67 #[.string (s.extract 1 s.size), .int .u8 s[0].toNat] w0 fun e w' => e = .returned (.int .i64 n) ∧ w0 = w') := HX
    have hn := Lx.idx1_lt hi
    rw [hll] at hn
    have HC' := Lib.hid (fun w0 => HC.out n w0 (by rw [Hmid.out, toB_size, List.length_take]; omega))
    rw [Hmid.out n, toB_list] at HC'
    have Hm := Lib.hid (Hmid.out n)
    clear hi HC Hmid hll
    simp only
    have hnz : (n : Int) + 1 ≤ (s.size : Int) := by omega
    generalize hany : (r.take n).any (fun c => c == 92 || c == 10) = bad at *
    cases bad
    · simp only [Bool.false_eq_true, if_false]
      go_enter Tryz.func71, Tryz.ntmps71
      go_upto_region 1 with (first
        | (refine wpList_alloc_lay rfl 35 rfl zT zeroT ?_; (intro w1 g1 hg1 hB1 hb1)))
      go_quiet ((go_at_call 67; exact Calls.quiet_of_same ((HX.out _).mono fun e w1 h => ⟨h.1, h.2.symm⟩)))
      generalize hw2 : w1.drewN nq = w2
      have hb2 : Below w.heap.size w w2 := by rw [← hw2]; exact Below.drewN hb1 _
      have hB2 : Blk w2 g1 zT := by rw [← hw2]; exact hB1
      clear hw2 hB1 hb1 hany
      go_upto_region 4 with (first
        | (go_at_call 105; rw [Hm.out]; (with_reducible refine (HC'.out _).mono ?_); rintro e w3 ⟨rfl, hb3⟩; replace hB2 := hB2.below hb3 hB2.lt; replace hb2 := hb2.trans (hb3.mono hb2.size); clear hb3))
      go_wp2_with (first
        | (refine wpList_store_all rfl 35 _ _ rfl g1 _ rfl rfl zT hB2 infoT rfl ?_ ?_; (· exact one_tok _ _ _ _ _); (intro w9 hB9 hgr; rw [Hm.out] at hB9; replace hb2 := Below.grown hb2 hgr hb2.size (fun _ e => by cases e; exact hg1); clear hgr)))
      refine bodyPost_ret (v := .tuple #[.agg (tokC 3 (r.take n) 0 0 0).toArray, .int .i64 (n + 2 : Nat), .nilIface]) ?_ rfl ⟨rfl, hb2⟩
      exact results_blk3 (p := 2) (u := 3) (v := 4) (ty := 35) rfl _ _ g1 _ rfl hB9 _ Tryz.underlying35 rfl infoT
    · simp only [if_true]
      go_enter Tryz.func71, Tryz.ntmps71
      go_upto_region 1 with (first
        | (refine wpList_alloc_lay rfl 35 rfl zT zeroT ?_; (intro w1 g1 hg1 hB1 hb1)))
      go_quiet ((go_at_call 67; exact Calls.quiet_of_same ((HX.out _).mono fun e w1 h => ⟨h.1, h.2.symm⟩)))
      generalize hw2 : w1.drewN nq = w2
      have hb2 : Below w.heap.size w w2 := by rw [← hw2]; exact Below.drewN hb1 _
      have hB2 : Blk w2 g1 zT := by rw [← hw2]; exact hB1
      clear hw2 hB1 hb1 hany
      have HB2 := Lib.hid hB2; have Hb2 := Lib.hid hb2
      clear hB2 hb2
      go_upto_region 3 with (first
        | (go_at_call 105; rw [Hm.out]; (with_reducible refine (HC'.out _).mono ?_); rintro e w3 ⟨rfl, hb3⟩))
      have hB3 := HB2.out.below hb3 HB2.out.lt
      have hb4 := Hb2.out.trans (hb3.mono Hb2.out.size)
      have hform := (Hv.out.below hb4).form
      unfold errV at hform
      obtain ⟨c0, c1, c2, c3, c4, f0, f1, f2, f3, f4⟩ := ZB.of hB3
      have hgn1 : ¬ (g1 = 1) := by omega
      have hgn2 : ¬ (1 = g1) := by omega
      have HB3 := Lib.hid hB3; have Hb4 := Lib.hid hb4
      clear hB3 hb4 hb3
      go_region
      all_goals
        go_wp2
        refine bodyPost_ret (v := .tuple #[.agg zT.toArray, .int .i64 0, errV (A 8)]) ?_ rfl ⟨tok_bad rfl (one_tok _ _ _ _ _) rfl, (zSet_below Hb4.out hg1).drew⟩
        exact results_blk3 (p := 2) (u := 3) (v := 4) (ty := 35) rfl _ _ g1 zT rfl (zSet_blk HB3.out) _ Tryz.underlying35 rfl infoT

end Go.Proofs.YtiofhfcohhfihaaGreatDoor
