/- The law ApplyStrict, walked: it answers true and leaves the old memory alone. -/
import Derived.Test.YtkldcjlkeblggaaDoorDAlive
import Derived.Test.YtkldcjlkeblggaaDoorDLaid
import Derived.Test.YtkldcjlkeblggaaDoorOpen
namespace Go.Proofs.YtkldcjlkeblggaaDoor
open Go.RowKit
open Val (V E cmp right eright esm v0 Res ado vmx esz gr ge)
set_option linter.unusedVariables false
set_option linter.unusedSimpArgs false

theorem strict_bounds {x : E} {a : V} (h1 : ¬ ge x 80 20 < 0) (h2 : ¬ gr a 80 30 < 0) : esm x ∧ vmx a + esz x ≤ 90000 := by
  have g1 := Val.ge_esz x 80 20 (by decide) (by omega)
  have g2 := Val.gr_vmx a 80 30 (by decide) (by omega)
  exact ⟨g1.2, by omega⟩
theorem avalue_ok {x : E} {a y : V} (h : Val.avalue x a = .ok y) : eright x = true ∧ right a = true ∧ ado x a = .ok y := by
  unfold Val.avalue at h
  split at h
  · rename_i hr; exact ⟨hr.1, hr.2, h⟩
  · cases h
theorem strict_swap {x : E} {a b y z : V} (hk : x.kind = 1) (h1 : Val.avalue x a = .ok y) (h2 : Val.avalue x b = .ok z) : cmp a b = 0 := by
  obtain ⟨r1, r2, r3⟩ := avalue_ok h1
  obtain ⟨_, r4, r5⟩ := avalue_ok h2
  obtain ⟨k, o, n, f, r, ro, rn, s, ks⟩ := x
  have hk : k = 1 := hk
  subst hk
  obtain ⟨_, hp⟩ := Val.eright_parts r1
  rw [ado] at r3 r5
  rw [if_pos rfl] at r3 r5
  split at r3
  case isFalse => cases r3
  split at r5
  case isFalse => cases r5
  rename_i q1 q2
  have ho : right o = true := by
    rcases hp with h | ⟨_, h, _⟩ | ⟨h, _⟩ | ⟨h, _⟩ | ⟨h, _⟩
    · omega
    · exact h
    all_goals omega
  rw [← Val.cmp_eq o a ho r2 q1, ← Val.cmp_eq o b ho r4 q2]
  exact Val.cmp_refl o
theorem strict_same {x : E} {a b y z : V} (h1 : Val.avalue x a = .ok y) (h2 : Val.avalue x b = .ok z) : decide (cmp y z = 0) = decide (cmp a b = 0) := by
  obtain ⟨r1, r2, r3⟩ := avalue_ok h1
  obtain ⟨_, r4, r5⟩ := avalue_ok h2
  have ry := Val.ado_right x a y r1 r2 r3
  have rz := Val.ado_right x b z r1 r4 r5
  by_cases h : cmp a b = 0
  · have e := Val.cmp_eq a b r2 r4 h
    subst e
    rw [r3] at r5
    cases r5
    rw [decide_eq_true h, decide_eq_true (Val.cmp_refl y)]
  · rw [decide_eq_false h]
    refine decide_eq_false (fun h3 => ?_)
    have e := Val.cmp_eq y z ry rz h3
    subst e
    have := Val.ado_inj x a b y r1 r2 r4 r3 r5
    subst this
    exact h (Val.cmp_refl a)

set_option maxRecDepth 100000 in
set_option maxHeartbeats 4000000 in
theorem applyStrict_at (er : Errs) (w : World) (he : ErrsAt er w) (x : E) (a b : V) (xc ac bc : List Value) (hx : ER (frag w) x xc) (ha : VR (frag w) a ac) (hb : VR (frag w) b bc) :
    Calls Tryd.prog 3 #[.agg xc.toArray, .agg ac.toArray, .agg bc.toArray] w fun e w' => e = .returned (.bool true) ∧ Below w.heap.size w w' := by
  have HAl := Lib.hid (fun (wx : World) (hb : Below w.heap.size w wx) => alive_any er wx (he.keep hb))
  have HG1 := Lib.hid (fun (wx : World) (hb : Below w.heap.size w wx) => Great21_any x xc wx 80 (hx.mono (below_le hb)) (by decide) (by decide))
  have HG2 := Lib.hid (fun (wx : World) (hb : Below w.heap.size w wx) => Great13_any a ac wx 80 (ha.mono (below_le hb)) (by decide) (by decide))
  have HG3 := Lib.hid (fun (wx : World) (hbb : Below w.heap.size w wx) => Great13_any b bc wx 80 (hb.mono (below_le hbb)) (by decide) (by decide))
  have HLx := Lib.hid hx.shape.len; have HLa := Lib.hid ha.len; have HLb := Lib.hid hb.len
  have HHx := Lib.hid hx; have HHa := Lib.hid ha; have HHb := Lib.hid hb
  have HE := Lib.hid he
  have HK0 := Lib.hid hx.k0
  clear hx ha hb he
  by_cases h1 : ge x 80 20 < 0
  · rw [decide_eq_true h1] at HG1
    go_enter Tryd.func3, Tryd.ntmps3
    go_upto_region 1 with ((first
      | (refine wpList_box_lay rfl 32 _ rfl _ rfl ?_; (intro w3 g3 hg3 hB3 hb3))
      | (refine wpList_box_lay rfl 27 _ rfl ac rfl ?_; (intro w4 g4 hg4 hB4 hb4; replace hB3 := hB3.below hb4 hB3.lt; replace hg4 := Nat.le_trans hb3.size hg4; replace hb3 := hb3.trans (hb4.mono hb3.size); clear hb4))
      | (refine wpList_box_lay rfl 27 _ rfl bc rfl ?_; (intro w5 g5 hg5 hB5 hb5; replace hB3 := hB3.below hb5 hB3.lt; replace hB4 := hB4.below hb5 hB4.lt; replace hg5 := Nat.le_trans hb3.size hg5; have Hb0 : Hid (Below w.heap.size w w5) := hb3.trans (hb5.mono hb3.size); have r3 := hB3.whole; have r4 := hB4.whole; have r5 := hB5.whole; have Hlt0 : Hid (g3 < w5.heap.size ∧ g4 < w5.heap.size ∧ g5 < w5.heap.size) := ⟨hB3.lt, hB4.lt, hB5.lt⟩; clear hb3 hb5 hB3 hB4 hB5 hg3 hg4 hg5))))
    go_wp2_with (first
      | (go_at_call 5; (with_reducible refine (HAl.out _ Hb0.out).mono ?_); rintro e w1 ⟨rfl, hb1⟩; have Hb1 : Hid (Below w.heap.size w w1) := Hb0.out.trans (hb1.mono Hb0.out.size); replace r3 := range_below r3 hb1 Hlt0.out.1; replace r4 := range_below r4 hb1 Hlt0.out.2.1; replace r5 := range_below r5 hb1 Hlt0.out.2.2; have Hlt1 : Hid (g3 < w1.heap.size ∧ g4 < w1.heap.size ∧ g5 < w1.heap.size) := ⟨Nat.lt_of_lt_of_le Hlt0.out.1 hb1.size, Nat.lt_of_lt_of_le Hlt0.out.2.1 hb1.size, Nat.lt_of_lt_of_le Hlt0.out.2.2 hb1.size⟩; clear hb1)
      | (refine wpList_load_seg rfl 32 _ rfl _ _ rfl _ _ r3 Tryd.underlying32 rfl ?_ ?_; (· exact infoE.trans (congrArg some HLx.out.symm)))
      | (refine wpList_load_seg rfl 27 _ rfl _ _ rfl _ _ (by assumption) Tryd.underlying27 rfl ?_ ?_; (· first | exact infoV.trans (congrArg some HLa.out.symm) | exact infoV.trans (congrArg some HLb.out.symm)))
      | (go_at_call 6; (with_reducible refine (HG1.out _ Hb1.out).mono ?_); rintro e w2 ⟨rfl, hb2⟩; have Hb2 : Hid (Below w.heap.size w w2) := Hb1.out.trans (hb2.mono Hb1.out.size); replace r3 := range_below r3 hb2 Hlt1.out.1; replace r4 := range_below r4 hb2 Hlt1.out.2.1; replace r5 := range_below r5 hb2 Hlt1.out.2.2; have Hlt2 : Hid (g3 < w2.heap.size ∧ g4 < w2.heap.size ∧ g5 < w2.heap.size) := ⟨Nat.lt_of_lt_of_le Hlt1.out.1 hb2.size, Nat.lt_of_lt_of_le Hlt1.out.2.1 hb2.size, Nat.lt_of_lt_of_le Hlt1.out.2.2 hb2.size⟩; clear hb2)
      | (go_at_call 7; (with_reducible refine (HG2.out _ Hb2.out).mono ?_); rintro e w8 ⟨rfl, hb8⟩; have Hb8 : Hid (Below w.heap.size w w8) := Hb2.out.trans (hb8.mono Hb2.out.size); replace r3 := range_below r3 hb8 Hlt2.out.1; replace r4 := range_below r4 hb8 Hlt2.out.2.1; replace r5 := range_below r5 hb8 Hlt2.out.2.2; have Hlt8 : Hid (g3 < w8.heap.size ∧ g4 < w8.heap.size ∧ g5 < w8.heap.size) := ⟨Nat.lt_of_lt_of_le Hlt2.out.1 hb8.size, Nat.lt_of_lt_of_le Hlt2.out.2.1 hb8.size, Nat.lt_of_lt_of_le Hlt2.out.2.2 hb8.size⟩; clear hb8 HG2)
      | (go_at_call 7; (with_reducible refine (HG3.out _ Hb8.out).mono ?_); rintro e w9 ⟨rfl, hb9⟩; have Hb9 : Hid (Below w.heap.size w w9) := Hb8.out.trans (hb9.mono Hb8.out.size); replace r3 := range_below r3 hb9 Hlt8.out.1; replace r4 := range_below r4 hb9 Hlt8.out.2.1; replace r5 := range_below r5 hb9 Hlt8.out.2.2; have Hlt9 : Hid (g3 < w9.heap.size ∧ g4 < w9.heap.size ∧ g5 < w9.heap.size) := ⟨Nat.lt_of_lt_of_le Hlt8.out.1 hb9.size, Nat.lt_of_lt_of_le Hlt8.out.2.1 hb9.size, Nat.lt_of_lt_of_le Hlt8.out.2.2 hb9.size⟩; clear hb9))
    go_ret
    exact ⟨rfl, Hb2.out⟩
  rw [decide_eq_false h1] at HG1
  by_cases h2 : gr a 80 30 < 0
  · rw [decide_eq_true h2] at HG2
    go_enter Tryd.func3, Tryd.ntmps3
    go_upto_region 1 with ((first
      | (refine wpList_box_lay rfl 32 _ rfl _ rfl ?_; (intro w3 g3 hg3 hB3 hb3))
      | (refine wpList_box_lay rfl 27 _ rfl ac rfl ?_; (intro w4 g4 hg4 hB4 hb4; replace hB3 := hB3.below hb4 hB3.lt; replace hg4 := Nat.le_trans hb3.size hg4; replace hb3 := hb3.trans (hb4.mono hb3.size); clear hb4))
      | (refine wpList_box_lay rfl 27 _ rfl bc rfl ?_; (intro w5 g5 hg5 hB5 hb5; replace hB3 := hB3.below hb5 hB3.lt; replace hB4 := hB4.below hb5 hB4.lt; replace hg5 := Nat.le_trans hb3.size hg5; have Hb0 : Hid (Below w.heap.size w w5) := hb3.trans (hb5.mono hb3.size); have r3 := hB3.whole; have r4 := hB4.whole; have r5 := hB5.whole; have Hlt0 : Hid (g3 < w5.heap.size ∧ g4 < w5.heap.size ∧ g5 < w5.heap.size) := ⟨hB3.lt, hB4.lt, hB5.lt⟩; clear hb3 hb5 hB3 hB4 hB5 hg3 hg4 hg5))))
    go_wp2_with (first
      | (go_at_call 5; (with_reducible refine (HAl.out _ Hb0.out).mono ?_); rintro e w1 ⟨rfl, hb1⟩; have Hb1 : Hid (Below w.heap.size w w1) := Hb0.out.trans (hb1.mono Hb0.out.size); replace r3 := range_below r3 hb1 Hlt0.out.1; replace r4 := range_below r4 hb1 Hlt0.out.2.1; replace r5 := range_below r5 hb1 Hlt0.out.2.2; have Hlt1 : Hid (g3 < w1.heap.size ∧ g4 < w1.heap.size ∧ g5 < w1.heap.size) := ⟨Nat.lt_of_lt_of_le Hlt0.out.1 hb1.size, Nat.lt_of_lt_of_le Hlt0.out.2.1 hb1.size, Nat.lt_of_lt_of_le Hlt0.out.2.2 hb1.size⟩; clear hb1)
      | (refine wpList_load_seg rfl 32 _ rfl _ _ rfl _ _ r3 Tryd.underlying32 rfl ?_ ?_; (· exact infoE.trans (congrArg some HLx.out.symm)))
      | (refine wpList_load_seg rfl 27 _ rfl _ _ rfl _ _ (by assumption) Tryd.underlying27 rfl ?_ ?_; (· first | exact infoV.trans (congrArg some HLa.out.symm) | exact infoV.trans (congrArg some HLb.out.symm)))
      | (go_at_call 6; (with_reducible refine (HG1.out _ Hb1.out).mono ?_); rintro e w2 ⟨rfl, hb2⟩; have Hb2 : Hid (Below w.heap.size w w2) := Hb1.out.trans (hb2.mono Hb1.out.size); replace r3 := range_below r3 hb2 Hlt1.out.1; replace r4 := range_below r4 hb2 Hlt1.out.2.1; replace r5 := range_below r5 hb2 Hlt1.out.2.2; have Hlt2 : Hid (g3 < w2.heap.size ∧ g4 < w2.heap.size ∧ g5 < w2.heap.size) := ⟨Nat.lt_of_lt_of_le Hlt1.out.1 hb2.size, Nat.lt_of_lt_of_le Hlt1.out.2.1 hb2.size, Nat.lt_of_lt_of_le Hlt1.out.2.2 hb2.size⟩; clear hb2)
      | (go_at_call 7; (with_reducible refine (HG2.out _ Hb2.out).mono ?_); rintro e w8 ⟨rfl, hb8⟩; have Hb8 : Hid (Below w.heap.size w w8) := Hb2.out.trans (hb8.mono Hb2.out.size); replace r3 := range_below r3 hb8 Hlt2.out.1; replace r4 := range_below r4 hb8 Hlt2.out.2.1; replace r5 := range_below r5 hb8 Hlt2.out.2.2; have Hlt8 : Hid (g3 < w8.heap.size ∧ g4 < w8.heap.size ∧ g5 < w8.heap.size) := ⟨Nat.lt_of_lt_of_le Hlt2.out.1 hb8.size, Nat.lt_of_lt_of_le Hlt2.out.2.1 hb8.size, Nat.lt_of_lt_of_le Hlt2.out.2.2 hb8.size⟩; clear hb8 HG2)
      | (go_at_call 7; (with_reducible refine (HG3.out _ Hb8.out).mono ?_); rintro e w9 ⟨rfl, hb9⟩; have Hb9 : Hid (Below w.heap.size w w9) := Hb8.out.trans (hb9.mono Hb8.out.size); replace r3 := range_below r3 hb9 Hlt8.out.1; replace r4 := range_below r4 hb9 Hlt8.out.2.1; replace r5 := range_below r5 hb9 Hlt8.out.2.2; have Hlt9 : Hid (g3 < w9.heap.size ∧ g4 < w9.heap.size ∧ g5 < w9.heap.size) := ⟨Nat.lt_of_lt_of_le Hlt8.out.1 hb9.size, Nat.lt_of_lt_of_le Hlt8.out.2.1 hb9.size, Nat.lt_of_lt_of_le Hlt8.out.2.2 hb9.size⟩; clear hb9))
    go_ret
    exact ⟨rfl, Hb8.out⟩
  rw [decide_eq_false h2] at HG2
  by_cases h3 : gr b 80 30 < 0
  · rw [decide_eq_true h3] at HG3
    go_enter Tryd.func3, Tryd.ntmps3
    go_upto_region 1 with ((first
      | (refine wpList_box_lay rfl 32 _ rfl _ rfl ?_; (intro w3 g3 hg3 hB3 hb3))
      | (refine wpList_box_lay rfl 27 _ rfl ac rfl ?_; (intro w4 g4 hg4 hB4 hb4; replace hB3 := hB3.below hb4 hB3.lt; replace hg4 := Nat.le_trans hb3.size hg4; replace hb3 := hb3.trans (hb4.mono hb3.size); clear hb4))
      | (refine wpList_box_lay rfl 27 _ rfl bc rfl ?_; (intro w5 g5 hg5 hB5 hb5; replace hB3 := hB3.below hb5 hB3.lt; replace hB4 := hB4.below hb5 hB4.lt; replace hg5 := Nat.le_trans hb3.size hg5; have Hb0 : Hid (Below w.heap.size w w5) := hb3.trans (hb5.mono hb3.size); have r3 := hB3.whole; have r4 := hB4.whole; have r5 := hB5.whole; have Hlt0 : Hid (g3 < w5.heap.size ∧ g4 < w5.heap.size ∧ g5 < w5.heap.size) := ⟨hB3.lt, hB4.lt, hB5.lt⟩; clear hb3 hb5 hB3 hB4 hB5 hg3 hg4 hg5))))
    go_wp2_with (first
      | (go_at_call 5; (with_reducible refine (HAl.out _ Hb0.out).mono ?_); rintro e w1 ⟨rfl, hb1⟩; have Hb1 : Hid (Below w.heap.size w w1) := Hb0.out.trans (hb1.mono Hb0.out.size); replace r3 := range_below r3 hb1 Hlt0.out.1; replace r4 := range_below r4 hb1 Hlt0.out.2.1; replace r5 := range_below r5 hb1 Hlt0.out.2.2; have Hlt1 : Hid (g3 < w1.heap.size ∧ g4 < w1.heap.size ∧ g5 < w1.heap.size) := ⟨Nat.lt_of_lt_of_le Hlt0.out.1 hb1.size, Nat.lt_of_lt_of_le Hlt0.out.2.1 hb1.size, Nat.lt_of_lt_of_le Hlt0.out.2.2 hb1.size⟩; clear hb1)
      | (refine wpList_load_seg rfl 32 _ rfl _ _ rfl _ _ r3 Tryd.underlying32 rfl ?_ ?_; (· exact infoE.trans (congrArg some HLx.out.symm)))
      | (refine wpList_load_seg rfl 27 _ rfl _ _ rfl _ _ (by assumption) Tryd.underlying27 rfl ?_ ?_; (· first | exact infoV.trans (congrArg some HLa.out.symm) | exact infoV.trans (congrArg some HLb.out.symm)))
      | (go_at_call 6; (with_reducible refine (HG1.out _ Hb1.out).mono ?_); rintro e w2 ⟨rfl, hb2⟩; have Hb2 : Hid (Below w.heap.size w w2) := Hb1.out.trans (hb2.mono Hb1.out.size); replace r3 := range_below r3 hb2 Hlt1.out.1; replace r4 := range_below r4 hb2 Hlt1.out.2.1; replace r5 := range_below r5 hb2 Hlt1.out.2.2; have Hlt2 : Hid (g3 < w2.heap.size ∧ g4 < w2.heap.size ∧ g5 < w2.heap.size) := ⟨Nat.lt_of_lt_of_le Hlt1.out.1 hb2.size, Nat.lt_of_lt_of_le Hlt1.out.2.1 hb2.size, Nat.lt_of_lt_of_le Hlt1.out.2.2 hb2.size⟩; clear hb2)
      | (go_at_call 7; (with_reducible refine (HG2.out _ Hb2.out).mono ?_); rintro e w8 ⟨rfl, hb8⟩; have Hb8 : Hid (Below w.heap.size w w8) := Hb2.out.trans (hb8.mono Hb2.out.size); replace r3 := range_below r3 hb8 Hlt2.out.1; replace r4 := range_below r4 hb8 Hlt2.out.2.1; replace r5 := range_below r5 hb8 Hlt2.out.2.2; have Hlt8 : Hid (g3 < w8.heap.size ∧ g4 < w8.heap.size ∧ g5 < w8.heap.size) := ⟨Nat.lt_of_lt_of_le Hlt2.out.1 hb8.size, Nat.lt_of_lt_of_le Hlt2.out.2.1 hb8.size, Nat.lt_of_lt_of_le Hlt2.out.2.2 hb8.size⟩; clear hb8 HG2)
      | (go_at_call 7; (with_reducible refine (HG3.out _ Hb8.out).mono ?_); rintro e w9 ⟨rfl, hb9⟩; have Hb9 : Hid (Below w.heap.size w w9) := Hb8.out.trans (hb9.mono Hb8.out.size); replace r3 := range_below r3 hb9 Hlt8.out.1; replace r4 := range_below r4 hb9 Hlt8.out.2.1; replace r5 := range_below r5 hb9 Hlt8.out.2.2; have Hlt9 : Hid (g3 < w9.heap.size ∧ g4 < w9.heap.size ∧ g5 < w9.heap.size) := ⟨Nat.lt_of_lt_of_le Hlt8.out.1 hb9.size, Nat.lt_of_lt_of_le Hlt8.out.2.1 hb9.size, Nat.lt_of_lt_of_le Hlt8.out.2.2 hb9.size⟩; clear hb9))
    go_ret
    exact ⟨rfl, Hb9.out⟩
  rw [decide_eq_false h3] at HG3
  have HB1 := Lib.hid (strict_bounds h1 h2)
  have HB2 := Lib.hid (strict_bounds h1 h3)
  clear h1 h2 h3
  go_enter Tryd.func3, Tryd.ntmps3
  go_upto_region 1 with ((first
    | (refine wpList_box_lay rfl 32 _ rfl _ rfl ?_; (intro w3 g3 hg3 hB3 hb3))
    | (refine wpList_box_lay rfl 27 _ rfl ac rfl ?_; (intro w4 g4 hg4 hB4 hb4; replace hB3 := hB3.below hb4 hB3.lt; replace hg4 := Nat.le_trans hb3.size hg4; replace hb3 := hb3.trans (hb4.mono hb3.size); clear hb4))
    | (refine wpList_box_lay rfl 27 _ rfl bc rfl ?_; (intro w5 g5 hg5 hB5 hb5; replace hB3 := hB3.below hb5 hB3.lt; replace hB4 := hB4.below hb5 hB4.lt; replace hg5 := Nat.le_trans hb3.size hg5; have Hb0 : Hid (Below w.heap.size w w5) := hb3.trans (hb5.mono hb3.size); have r3 := hB3.whole; have r4 := hB4.whole; have r5 := hB5.whole; have Hlt0 : Hid (g3 < w5.heap.size ∧ g4 < w5.heap.size ∧ g5 < w5.heap.size) := ⟨hB3.lt, hB4.lt, hB5.lt⟩; clear hb3 hb5 hB3 hB4 hB5 hg3 hg4 hg5))))
  go_upto_region 5 with ((first
    | (go_at_call 5; (with_reducible refine (HAl.out _ Hb0.out).mono ?_); rintro e w1 ⟨rfl, hb1⟩; have Hb1 : Hid (Below w.heap.size w w1) := Hb0.out.trans (hb1.mono Hb0.out.size); replace r3 := range_below r3 hb1 Hlt0.out.1; replace r4 := range_below r4 hb1 Hlt0.out.2.1; replace r5 := range_below r5 hb1 Hlt0.out.2.2; have Hlt1 : Hid (g3 < w1.heap.size ∧ g4 < w1.heap.size ∧ g5 < w1.heap.size) := ⟨Nat.lt_of_lt_of_le Hlt0.out.1 hb1.size, Nat.lt_of_lt_of_le Hlt0.out.2.1 hb1.size, Nat.lt_of_lt_of_le Hlt0.out.2.2 hb1.size⟩; clear hb1)
    | (refine wpList_load_seg rfl 32 _ rfl _ _ rfl _ _ r3 Tryd.underlying32 rfl ?_ ?_; (· exact infoE.trans (congrArg some HLx.out.symm)))
    | (refine wpList_load_seg rfl 27 _ rfl _ _ rfl _ _ (by assumption) Tryd.underlying27 rfl ?_ ?_; (· first | exact infoV.trans (congrArg some HLa.out.symm) | exact infoV.trans (congrArg some HLb.out.symm)))
    | (go_at_call 6; (with_reducible refine (HG1.out _ Hb1.out).mono ?_); rintro e w2 ⟨rfl, hb2⟩; have Hb2 : Hid (Below w.heap.size w w2) := Hb1.out.trans (hb2.mono Hb1.out.size); replace r3 := range_below r3 hb2 Hlt1.out.1; replace r4 := range_below r4 hb2 Hlt1.out.2.1; replace r5 := range_below r5 hb2 Hlt1.out.2.2; have Hlt2 : Hid (g3 < w2.heap.size ∧ g4 < w2.heap.size ∧ g5 < w2.heap.size) := ⟨Nat.lt_of_lt_of_le Hlt1.out.1 hb2.size, Nat.lt_of_lt_of_le Hlt1.out.2.1 hb2.size, Nat.lt_of_lt_of_le Hlt1.out.2.2 hb2.size⟩; clear hb2)
    | (go_at_call 7; (with_reducible refine (HG2.out _ Hb2.out).mono ?_); rintro e w8 ⟨rfl, hb8⟩; have Hb8 : Hid (Below w.heap.size w w8) := Hb2.out.trans (hb8.mono Hb2.out.size); replace r3 := range_below r3 hb8 Hlt2.out.1; replace r4 := range_below r4 hb8 Hlt2.out.2.1; replace r5 := range_below r5 hb8 Hlt2.out.2.2; have Hlt8 : Hid (g3 < w8.heap.size ∧ g4 < w8.heap.size ∧ g5 < w8.heap.size) := ⟨Nat.lt_of_lt_of_le Hlt2.out.1 hb8.size, Nat.lt_of_lt_of_le Hlt2.out.2.1 hb8.size, Nat.lt_of_lt_of_le Hlt2.out.2.2 hb8.size⟩; clear hb8 HG2)
    | (go_at_call 7; (with_reducible refine (HG3.out _ Hb8.out).mono ?_); rintro e w9 ⟨rfl, hb9⟩; have Hb9 : Hid (Below w.heap.size w w9) := Hb8.out.trans (hb9.mono Hb8.out.size); replace r3 := range_below r3 hb9 Hlt8.out.1; replace r4 := range_below r4 hb9 Hlt8.out.2.1; replace r5 := range_below r5 hb9 Hlt8.out.2.2; have Hlt9 : Hid (g3 < w9.heap.size ∧ g4 < w9.heap.size ∧ g5 < w9.heap.size) := ⟨Nat.lt_of_lt_of_le Hlt8.out.1 hb9.size, Nat.lt_of_lt_of_le Hlt8.out.2.1 hb9.size, Nat.lt_of_lt_of_le Hlt8.out.2.2 hb9.size⟩; clear hb9)))
  have HV1 : Hid (Calls Tryd.prog 8 #[.agg xc.toArray, .agg ac.toArray] w9 (RetR er [] w9 (Val.avalue x a))) :=
    value_any er [] x a xc ac w9 (fun _ h => by cases h) HB1.out.1 HB1.out.2 (HE.out.keep Hb9.out) (HHx.out.mono (below_leE Hb9.out (fun _ h => by cases h))) (HHa.out.mono (below_leE Hb9.out (fun _ h => by cases h)))
  have Hn9 : Hid (∀ g, w9.heap.size ≤ g → g3 ≠ g ∧ g4 ≠ g ∧ g5 ≠ g) := fun g hg => by have := Hlt9.out; omega
  go_upto_region 6 with ((first
    | (refine wpList_load_seg rfl 32 _ rfl _ _ rfl _ _ r3 Tryd.underlying32 rfl ?_ ?_; (· exact infoE.trans (congrArg some HLx.out.symm)))
    | (refine wpList_load_seg rfl 27 _ rfl _ _ rfl _ _ r4 Tryd.underlying27 rfl ?_ ?_; (· exact infoV.trans (congrArg some HLa.out.symm)))
    | (go_at_call 8; (with_reducible refine HV1.out.mono ?_); rintro e w10 hR; obtain ⟨yc, e1, rfl, hcl, hc1, hb10, hV⟩ := RetR.form hR; have Hcl := Lib.hid hcl; have Hc1 := Lib.hid hc1; have HY := Lib.hid hV; have Hb10 := Lib.hid hb10; clear hR hcl hc1 hV hb10)
    | (refine wpList_alloc_lay rfl 27 rfl zV zeroV ?_; (intro w11 g7 hg7 hB7 hb11; have Hb11 : Hid (Below w9.heap.size w9 w11) := Hb10.out.trans (hb11.mono Hb10.out.size); have HY11 := Lib.hid (belowE (E := []) (E' := [some g7]) hb11 (fun k hk => by simp only [List.mem_singleton, Option.some.injEq] at hk; right; omega)); have Hg7 : Hid (w9.heap.size ≤ g7) := Nat.le_trans Hb10.out.size hg7; clear hb11 hg7))
    | (refine wpList_store_all rfl 27 _ _ rfl g7 yc rfl rfl zV hB7 ?_ ?_ ?_ ?_; (· exact infoV.trans (congrArg some Hcl.out.symm)); (· exact Hcl.out); (· exact Hc1.out); (intro w12 hB12 hgr12; have HleY := Lib.hid (HY11.out.trans (grownE (E' := [some g7]) hgr12 (.inr (by simp)) (fun _ h => .inl h))); have Hb12 : Hid (Below w9.heap.size w9 w12) := Below.grown Hb11.out hgr12 Hb11.out.size (fun _ e => by cases e; exact Hg7.out); have HB12 := Lib.hid hB12; clear hgr12 hB7 hB12))))
  replace r3 := range_below r3 Hb12.out Hlt9.out.1
  replace r4 := range_below r4 Hb12.out Hlt9.out.2.1
  replace r5 := range_below r5 Hb12.out Hlt9.out.2.2
  have Hw12 : Hid (Below w.heap.size w w12) := Hb9.out.trans (Hb12.out.mono Hb9.out.size)
  have Hlt12 : Hid (g3 < w12.heap.size ∧ g4 < w12.heap.size ∧ g5 < w12.heap.size ∧ g7 < w12.heap.size) := ⟨Nat.lt_of_lt_of_le Hlt9.out.1 Hb12.out.size, Nat.lt_of_lt_of_le Hlt9.out.2.1 Hb12.out.size, Nat.lt_of_lt_of_le Hlt9.out.2.2 Hb12.out.size, HB12.out.lt⟩
  have HV2 : Hid (Calls Tryd.prog 8 #[.agg xc.toArray, .agg bc.toArray] w12 (RetR er [] w12 (Val.avalue x b))) :=
    value_any er [] x b xc bc w12 (fun _ h => by cases h) HB2.out.1 HB2.out.2 (HE.out.keep Hw12.out) (HHx.out.mono (below_leE Hw12.out (fun _ h => by cases h))) (HHb.out.mono (below_leE Hw12.out (fun _ h => by cases h)))
  go_upto_region 7 with ((first
    | (refine wpList_load_seg rfl 32 _ rfl _ _ rfl _ _ r3 Tryd.underlying32 rfl ?_ ?_; (· exact infoE.trans (congrArg some HLx.out.symm)))
    | (refine wpList_load_seg rfl 27 _ rfl _ _ rfl _ _ r5 Tryd.underlying27 rfl ?_ ?_; (· exact infoV.trans (congrArg some HLb.out.symm)))
    | (go_at_call 8; (with_reducible refine HV2.out.mono ?_); rintro e w13 hR; obtain ⟨zc, e2, rfl, hcl, hc1, hb13, hV⟩ := RetR.form hR; have Hcl2 := Lib.hid hcl; have Hc2 := Lib.hid hc1; have HZ := Lib.hid hV; have Hb13 := Lib.hid hb13; clear hR hcl hc1 hV hb13)
    | (refine wpList_alloc_lay rfl 27 rfl zV zeroV ?_; (intro w14 g9 hg9 hB9 hb14; have Hb14 : Hid (Below w12.heap.size w12 w14) := Hb13.out.trans (hb14.mono Hb13.out.size); have HZ14 := Lib.hid (belowE (E := []) (E' := [some g9]) hb14 (fun k hk => by simp only [List.mem_singleton, Option.some.injEq] at hk; right; omega)); have Hg9 : Hid (w12.heap.size ≤ g9) := Nat.le_trans Hb13.out.size hg9; clear hb14 hg9))
    | (refine wpList_store_all rfl 27 _ _ rfl g9 zc rfl rfl zV hB9 ?_ ?_ ?_ ?_; (· exact infoV.trans (congrArg some Hcl2.out.symm)); (· exact Hcl2.out); (· exact Hc2.out); (intro w15 hB15 hgr15; have HleZ := Lib.hid (HZ14.out.trans (grownE (E' := [some g9]) hgr15 (.inr (by simp)) (fun _ h => .inl h))); have Hb15 : Hid (Below w12.heap.size w12 w15) := Below.grown Hb14.out hgr15 Hb14.out.size (fun _ e => by cases e; exact Hg9.out); have HB15 := Lib.hid hB15; clear hgr15 hB9 hB15))))
  replace r3 := range_below r3 Hb15.out Hlt12.out.1
  replace r4 := range_below r4 Hb15.out Hlt12.out.2.1
  replace r5 := range_below r5 Hb15.out Hlt12.out.2.2.1
  have r7 := (HB12.out.below Hb15.out HB12.out.lt).whole
  have r9 := HB15.out.whole
  have Hw15 : Hid (Below w.heap.size w w15) := Hw12.out.trans (Hb15.out.mono Hw12.out.size)
  have Hlt15 : Hid (g3 < w15.heap.size ∧ g4 < w15.heap.size ∧ g5 < w15.heap.size ∧ g7 < w15.heap.size ∧ g9 < w15.heap.size) := ⟨Nat.lt_of_lt_of_le Hlt12.out.1 Hb15.out.size, Nat.lt_of_lt_of_le Hlt12.out.2.1 Hb15.out.size, Nat.lt_of_lt_of_le Hlt12.out.2.2.1 Hb15.out.size, Nat.lt_of_lt_of_le Hlt12.out.2.2.2 Hb15.out.size, HB15.out.lt⟩
  cases hR1 : Val.avalue x a with
  | bad n =>
    have H1 : Hid (RV er (.bad n) e1 yc (fragE w10 [])) := by rw [← hR1]; exact HY.out
    have h1 : e1 = er.of n := H1.out
    obtain ⟨et, ev, he⟩ := Errs.is er n
    rw [he] at h1
    subst h1
    clear he hR1 H1 r3 r4 r5 r7 r9
    go_wp2_with fail
    go_ret
    exact ⟨rfl, Hw15.out⟩
  | ok y =>
    have H1 : Hid (RV er (.ok y) e1 yc (fragE w10 [])) := by rw [← hR1]; exact HY.out
    have h1 : e1 = .nilIface := H1.out.1
    subst h1
    cases hR2 : Val.avalue x b with
    | bad n =>
      have H2 : Hid (RV er (.bad n) e2 zc (fragE w13 [])) := by rw [← hR2]; exact HZ.out
      have h2 : e2 = er.of n := H2.out
      obtain ⟨et, ev, he⟩ := Errs.is er n
      rw [he] at h2
      subst h2
      clear he hR1 hR2 H1 H2 r3 r4 r5 r7 r9
      go_wp2_with fail
      go_ret
      exact ⟨rfl, Hw15.out⟩
    | ok z =>
      have H2 : Hid (RV er (.ok z) e2 zc (fragE w13 [])) := by rw [← hR2]; exact HZ.out
      have h2 : e2 = .nilIface := H2.out.1
      subst h2
      have HSw := Lib.hid (fun (hk : x.kind = 1) => strict_swap hk hR1 hR2)
      have HSs := Lib.hid (strict_same hR1 hR2)
      have q0 : w15.cell? ⟨g3, 0, none⟩ = some (.int .i64 x.kind) := by have := r3 0 _ HK0.out; simpa using this
      have HAB := Lib.hid (fun (wx : World) (hbx : Below w.heap.size w wx) => same_any a b ac bc wx (HHa.out.mono (below_le hbx)) (HHb.out.mono (below_le hbx)))
      have HY15 : Hid (VR (frag w15) y yc) := (H1.out.2.mono (HleY.out.trans (fragE_le _ _))).mono (below_le Hb15.out)
      have HZ15 : Hid (VR (frag w15) z zc) := H2.out.2.mono (HleZ.out.trans (fragE_le _ _))
      have HYZ := Lib.hid (fun (wx : World) (hbx : Below w15.heap.size w15 wx) => same_any y z yc zc wx (HY15.out.mono (below_le hbx)) (HZ15.out.mono (below_le hbx)))
      clear hR1 hR2
      generalize hkk : x.kind = kk at *
      clear hkk
      go_upto_region 9 with (fail)
      go_cut [49] from 41 to 50 (fun s49 Fw => s49 = .bool false ∧ Below w15.heap.size w15 Fw)
      case rest =>
        obtain ⟨h49, hbc⟩ := hcut
        subst h49
        obtain ⟨w16, rfl⟩ : ∃ z, z = wc := ⟨wc, rfl⟩
        have Hr := Lib.hid (And.intro r7 (And.intro r9 (And.intro r4 r5)))
        rw [HSs.out] at HYZ
        generalize decide (cmp a b = 0) = c at *
        have Hbc := Lib.hid hbc
        clear r3 r4 r5 r7 r9 hbc HSs HSw
        cases c
        all_goals
          go_wp2_with fail
          go_simp
          have hb0 : Below w15.heap.size w15 w16.drew := Hbc.out.drew
          have hS0 : (fun w' : World => (w'.rangeAt g7 0 yc ∧ w'.rangeAt g9 0 zc ∧ w'.rangeAt g4 0 ac ∧ w'.rangeAt g5 0 bc ∧ Below w15.heap.size w15 w')) w16.drew := ⟨range_below Hr.out.1 hb0 Hlt15.out.2.2.2.1, range_below Hr.out.2.1 hb0 Hlt15.out.2.2.2.2, range_below Hr.out.2.2.1 hb0 Hlt15.out.2.1, range_below Hr.out.2.2.2 hb0 Hlt15.out.2.2.1, hb0⟩
          refine wp_region_held_drew (S := fun w' => (w'.rangeAt g7 0 yc ∧ w'.rangeAt g9 0 zc ∧ w'.rangeAt g4 0 ac ∧ w'.rangeAt g5 0 bc ∧ Below w15.heap.size w15 w')) (by kernel_rfl) hS0 (fun hS => ?_)
          refine wpAnyH_take (i := 0) (v := .agg yc.toArray) rfl (by kernel_rfl) (by kernel_rfl) (by kernel_rfl) (fun _ _ _ h => h) (yieldsIf_load_mid (by rfl) 27 _ rfl g7 0 rfl yc _ (fun w h => h.1) Tryd.underlying27 rfl (infoV.trans (congrArg some Hcl.out.symm))) hS ?_
          refine wpAnyH_take (i := 1) (v := .agg zc.toArray) rfl (by kernel_rfl) (by kernel_rfl) (by kernel_rfl) (fun _ _ _ h => h) (yieldsIf_load_mid (by rfl) 27 _ rfl g9 0 rfl zc _ (fun w h => h.2.1) Tryd.underlying27 rfl (infoV.trans (congrArg some Hcl2.out.symm))) hS ?_
          refine wpAnyH_take (i := 3) (v := .agg ac.toArray) rfl (by kernel_rfl) (by kernel_rfl) (by kernel_rfl) (fun _ _ _ h => h) (yieldsIf_load_mid (by rfl) 27 _ rfl g4 0 rfl ac _ (fun w h => h.2.2.1) Tryd.underlying27 rfl (infoV.trans (congrArg some HLa.out.symm))) hS ?_
          refine wpAnyH_take (i := 4) (v := .agg bc.toArray) rfl (by kernel_rfl) (by kernel_rfl) (by kernel_rfl) (fun _ _ _ h => h) (yieldsIf_load_mid (by rfl) 27 _ rfl g5 0 rfl bc _ (fun w h => h.2.2.2.1) Tryd.underlying27 rfl (infoV.trans (congrArg some HLb.out.symm))) hS ?_
          refine wpAnyH_ready (rs := [2]) (by kernel_rfl) (by simp) ?_
          refine AllReadyH.cons rfl (fun K hK => ?_) AllReadyH.nil
          · go_simp
            refine (HYZ.out w16.drew hb0).mono ?_
            rintro e w17 ⟨rfl, hb17⟩
            have hb1 : Below w15.heap.size w15 w17 := hb0.trans (hb17.mono hb0.size)
            refine hK.out _ _ ⟨range_below Hr.out.1 hb1 Hlt15.out.2.2.2.1, range_below Hr.out.2.1 hb1 Hlt15.out.2.2.2.2, range_below Hr.out.2.2.1 hb1 Hlt15.out.2.1, range_below Hr.out.2.2.2 hb1 Hlt15.out.2.2.1, hb1⟩ (fun hS => ?_)
            refine wpAnyH_ready (rs := [5]) (by kernel_rfl) (by simp) ?_
            refine AllReadyH.cons rfl (fun K hK => ?_) AllReadyH.nil
            go_simp
            refine (HAB.out w17 (Hw15.out.trans (hb1.mono Hw15.out.size))).mono ?_
            rintro e w18 ⟨rfl, hb18⟩
            have hb2 : Below w15.heap.size w15 w18 := hb1.trans (hb18.mono hb1.size)
            refine hK.out _ _ ⟨range_below Hr.out.1 hb2 Hlt15.out.2.2.2.1, range_below Hr.out.2.1 hb2 Hlt15.out.2.2.2.2, range_below Hr.out.2.2.1 hb2 Hlt15.out.2.1, range_below Hr.out.2.2.2 hb2 Hlt15.out.2.2.1, hb2⟩ (fun hS => ?_)
            refine wpAnyH_take (i := 6) (v := .bool true) rfl (by kernel_rfl) (by kernel_rfl) (by kernel_rfl) (fun _ _ _ h => h) (.inl ⟨by rfl, fun w hw => by go_simp⟩) hS ?_
            refine wpAnyH_take (i := 7) (v := .bool true) rfl (by kernel_rfl) (by kernel_rfl) (by kernel_rfl) (fun _ _ _ h => h) (.inl ⟨by rfl, fun w hw => by go_simp⟩) hS ?_
            refine wpAnyH_done (by kernel_rfl) ?_ _
            have Hb2 := Lib.hid hb2
            clear hb2 hb18 hb1 hb17 hS hK
            go_wp2_with fail
            go_ret
            exact ⟨rfl, Hw15.out.trans (Hb2.out.mono Hw15.out.size)⟩
      by_cases hk1 : kk = 1
      · have hc := HSw.out hk1
        rw [decide_eq_true hc] at HAB
        clear hc
        subst hk1
        go_wp2_with (first
          | (refine wpList_load_seg rfl 27 _ rfl _ _ rfl _ _ (by assumption) Tryd.underlying27 rfl ?_ ?_; (· first | exact infoV.trans (congrArg some HLa.out.symm) | exact infoV.trans (congrArg some HLb.out.symm)))
          | (go_at_call 9; (with_reducible refine (HAB.out _ Hw15.out).mono ?_); rintro e w18 ⟨rfl, hb18⟩))
        go_meet
        exact ⟨rfl, hb18⟩
      · have hd1 : decide (kk = 1) = false := decide_eq_false hk1
        have hd2 : (kk == 1) = false := by rw [beq_eq_false_iff_ne]; exact hk1
        go_wp2_with fail
        go_meet
        exact ⟨by simp_all, Below.refl _ _⟩

section
variable {H : Type} {enc : TypeId × Value → H} {base : Nat} {spare : Nat → Bool} {held : Bool}
set_option maxRecDepth 100000 in
theorem applyStrict_walk {r : Reach} {b0 b1 b2 : Nat} {v0 v1 v2 : Value} {d0 d1 d2 : DataW H} {p0 p1 p2 : List MemPlace} (W : World) (hL : Laid W)
    (o0 : Value.okWide Tryd.prog W r b0 32 v0) (h0 : DataW.Trod enc Tryd.prog W base spare held 32 v0 d0 p0)
    (o1 : Value.okWide Tryd.prog W r b1 27 v1) (h1 : DataW.Trod enc Tryd.prog W base spare held 27 v1 d1 p1)
    (o2 : Value.okWide Tryd.prog W r b2 27 v2) (h2 : DataW.Trod enc Tryd.prog W base spare held 27 v2 d2 p2) :
    Calls Tryd.prog 3 #[v0, v1, v2] W fun e w' => e = .returned (.bool true) ∧ Below W.heap.size W w' := by
  obtain ⟨er, he⟩ := hL
  obtain ⟨x, xc, rfl, hx⟩ := open_E o0 h0
  obtain ⟨a, ac, rfl, ha⟩ := open_V o1 h1
  obtain ⟨b, bc, rfl, hb⟩ := open_V o2 h2
  exact applyStrict_at er W he x a b xc ac bc hx ha hb
end

end Go.Proofs.YtkldcjlkeblggaaDoor
