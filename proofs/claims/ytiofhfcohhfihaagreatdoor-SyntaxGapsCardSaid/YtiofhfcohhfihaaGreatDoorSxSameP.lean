/- Files, messages, enums of package syntax compared, walked. -/
import Derived.Test.YtiofhfcohhfihaaGreatDoorSxEq
import Derived.Test.YtiofhfcohhfihaaGreatDoorGroupB
namespace Go.Proofs.YtiofhfcohhfihaaGreatDoor
open Go.RowKit
set_option linter.unusedVariables false
set_option linter.unusedSimpArgs false

theorem enm_eq (x y : Sx.Enm) : decide (x = y) = (decide (x.name = y.name) && decide (x.line = y.line) && decide (x.col = y.col) && decide (x.values = y.values)) := by
  rw [Bool.eq_iff_iff]
  simp only [Bool.and_eq_true, decide_eq_true_iff]
  constructor
  · rintro rfl; simp
  · rintro ⟨⟨⟨h1, h2⟩, h3⟩, h4⟩
    cases x; cases y; simp_all
theorem and3 (a b c : Bool) : a = false ∨ (a = true ∧ b = false) ∨ (a = true ∧ b = true ∧ c = false) ∨ (a = true ∧ b = true ∧ c = true) := by
  cases a <;> cases b <;> cases c <;> simp
theorem and4 (a b c d : Bool) : a = false ∨ (a = true ∧ b = false) ∨ (a = true ∧ b = true ∧ c = false) ∨ (a = true ∧ b = true ∧ c = true ∧ d = false) ∨ (a = true ∧ b = true ∧ c = true ∧ d = true) := by
  cases a <;> cases b <;> cases c <;> cases d <;> simp
theorem sameEnum_enters (args : Array Value) (w : World) : (callFunc 50 args).run Tryz.prog w = .ok (.enter 50 args) w := enters_of Tryz.func50 (by kernel_rfl) rfl args w
theorem sameMessage_enters (args : Array Value) (w : World) : (callFunc 48 args).run Tryz.prog w = .ok (.enter 48 args) w := enters_of Tryz.func48 (by kernel_rfl) rfl args w

set_option maxHeartbeats 4000000 in
set_option maxRecDepth 100000 in
theorem sameEnum_any (a b : Sx.Enm) (ca cb : List Value) (w : World) (ha : EnmR (frag w) a ca) (hb : EnmR (frag w) b cb) :
    Calls Tryz.prog 50 #[.agg ca.toArray, .agg cb.toArray] w fun e w' => e = .returned (.bool (decide (a = b))) ∧ Below w.heap.size w w' := by
  obtain ⟨v1, rfl, h1⟩ := ha
  obtain ⟨v2, rfl, h2⟩ := hb
  rw [enm_eq]
  have HE := Lib.hid (fun w0 (hb : Below w.heap.size w w0) => eqV_any v1 v2 a.values b.values w0 (h1.mono (below_le hb)) (h2.mono (below_le hb)))
  have q1 := toB_beq a.name b.name
  have q2 := nat_beq a.line b.line
  have q3 := nat_beq a.col b.col
  have Hv1 := Lib.hid (flatV_one h1); have Hv2 := Lib.hid (flatV_one h2)
  clear h1 h2
  generalize decide (a.name = b.name) = d1 at *
  generalize decide (a.line = b.line) = d2 at *
  generalize decide (a.col = b.col) = d3 at *
  generalize decide (a.values = b.values) = d4 at *
  rcases and3 d1 d2 d3 with rfl | ⟨rfl, rfl⟩ | ⟨rfl, rfl, rfl⟩ | ⟨rfl, rfl, rfl⟩
  all_goals
    simp only [Bool.false_and, Bool.true_and]
    go_enter Tryz.func50, Tryz.ntmps50
    go_upto_region 1 with (first
      | (refine wpList_box_lay rfl 97 _ rfl [.string (toB a.name), v1, .int .i64 a.line, .int .i64 a.col] rfl ?_; (intro w1 g1 hg1 hB1 hb1))
      | (refine wpList_box_lay rfl 97 _ rfl [.string (toB b.name), v2, .int .i64 b.line, .int .i64 b.col] rfl ?_; (intro w2 g2 hg2 hB2 hb2)))
    have hB12 := hB1.below hb2 hB1.lt
    have Hb2 : Hid (Below w.heap.size w w2) := Lib.hid (hb1.trans (hb2.mono hb1.size))
    have x0 : w2.cell? ⟨g1, 0, none⟩ = some (.string (toB a.name)) := hB12.cell (o := 0) rfl
    have x1 : w2.cell? ⟨g1, 1, none⟩ = some v1 := hB12.cell (o := 1) rfl
    have x2 : w2.cell? ⟨g1, 2, none⟩ = some (.int .i64 a.line) := hB12.cell (o := 2) rfl
    have x3 : w2.cell? ⟨g1, 3, none⟩ = some (.int .i64 a.col) := hB12.cell (o := 3) rfl
    have y0 : w2.cell? ⟨g2, 0, none⟩ = some (.string (toB b.name)) := hB2.cell (o := 0) rfl
    have y1 : w2.cell? ⟨g2, 1, none⟩ = some v2 := hB2.cell (o := 1) rfl
    have y2 : w2.cell? ⟨g2, 2, none⟩ = some (.int .i64 b.line) := hB2.cell (o := 2) rfl
    have y3 : w2.cell? ⟨g2, 3, none⟩ = some (.int .i64 b.col) := hB2.cell (o := 3) rfl
    have HEc := Lib.hid (HE.out w2 Hb2.out)
    clear hB1 hb1 hB2 hb2 hg1 hg2 hB12
  · go_wp2_with fail
    go_ret
    exact ⟨rfl, Hb2.out⟩
  · go_wp2_with fail
    go_ret
    exact ⟨rfl, Hb2.out⟩
  · go_wp2_with fail
    go_ret
    exact ⟨rfl, Hb2.out⟩
  · go_wp2_with fail
    refine HEc.out.mono ?_
    rintro e w3 ⟨rfl, hb3⟩
    go_wp2_with fail
    go_ret
    exact ⟨rfl, Hb2.out.trans (hb3.mono Hb2.out.size)⟩

set_option maxHeartbeats 4000000 in
set_option maxRecDepth 100000 in
theorem eqEnums_any (xs ys : List Sx.Enm) (v1 v2 : Value) (csa csb : List (List Value)) (w : World) (h1 : FlatD 4 (frag w) v1 csa) (r1 : EnsR (frag w) xs csa) (h2 : FlatD 4 (frag w) v2 csb) (r2 : EnsR (frag w) ys csb) :
    Calls Tryz.prog 49 #[v1, v2, .func (.func 50) #[] #[]] w fun e w' => e = .returned (.bool (decide (xs = ys))) ∧ Below w.heap.size w w' := by
  obtain ⟨a1, c1, rfl, _, _, _⟩ := h1.1.len
  obtain ⟨a2, c2, rfl, _, _, _⟩ := h2.1.len
  have HF1 := Lib.hid h1.1; have HF2 := Lib.hid h2.1
  have HR1 := Lib.hid r1; have HR2 := Lib.hid r2
  have hn9 : csa.length ≤ 9223372036854775807 := by have := h1.2; omega
  have hla := r1.len; have hlb := r2.len
  clear h1 h2 r1 r2
  obtain ⟨D, hD⟩ : ∃ D, D = decide (xs = ys) := ⟨_, rfl⟩
  rw [← hD]
  by_cases hl : csa.length = csb.length
  · obtain ⟨n, hn⟩ : ∃ z, z = csa.length := ⟨_, rfl⟩
    have Hn2 : Hid (csb.length = n) := Lib.hid (by rw [hn, hl])
    rw [← hl]
    rw [← hl] at HF2
    rw [← hn] at HF1 HF2 hn9 ⊢
    have Hn1 : Hid (csa.length = n) := Lib.hid hn.symm
    have HLa := Lib.hid hla; have HLb := Lib.hid hlb
    have hz : (((n : Nat) : Int) != ((n : Nat) : Int)) = false := by simp
    have HD := Lib.hid hD
    clear hl hn hD hla hlb
    go_enter Tryz.func49, Tryz.ntmps49
    go_wp2_with fail
    clear hz
    go_loopw [17] (fun iv wr => ∃ k : Nat, k ≤ n ∧ iv = .int .i64 k ∧ Hid (xs.take k = ys.take k) ∧ Hid (Below w.heap.size w wr)) (fun iv _ => n - (intOf iv).toNat)
    case atStart => exact ⟨0, Nat.zero_le _, rfl, Lib.hid rfl, Lib.hid (Below.refl _ _)⟩
    case round =>
      obtain ⟨k, hkn, rfl, HT, HW⟩ := hrel
      by_cases hlt : k < n
      · have hs1 : k < csa.length := by rw [Hn1.out]; exact hlt
        have hs2 : k < csb.length := by rw [Hn2.out]; exact hlt
        have hk1 : k < xs.length := by rw [← HLa.out]; exact hs1
        have hk2 : k < ys.length := by rw [← HLb.out]; exact hs2
        obtain ⟨b0, o0, hb0, hidx0, hcell0⟩ := FlatC.at (n := n) (cap := c1) (a := a1) (HF1.out.mono (below_le HW.out)) (by decide) (i := k) hs1 Tryz.underlying29 sizeSE
        obtain ⟨b1, o1, hb1, hidx1, hcell1⟩ := FlatC.at (n := n) (cap := c2) (a := a2) (HF2.out.mono (below_le HW.out)) (by decide) (i := k) hs2 Tryz.underlying29 sizeSE
        have hr1 := HR1.out.at hk1 hs1
        have hr2 := HR2.out.at hk2 hs2
        have hT1 := List.take_succ_eq_append_getElem hk1
        have hT2 := List.take_succ_eq_append_getElem hk2
        have HNx : Hid (xs[k] = ys[k] → xs.take (k + 1) = ys.take (k + 1)) := Lib.hid (fun e => by rw [hT1, hT2, HT.out, e])
        have HNo : Hid (xs[k] ≠ ys[k] → D = false) := Lib.hid (fun e => by rw [HD.out]; exact decide_eq_false (take_ne hk1 hk2 e))
        skip
        have hq0 : wr.rangeAt b0 o0 csa[k] := hcell0
        have hq1 : wr.rangeAt b1 o1 csb[k] := hcell1
        clear hcell0 hcell1 hT1 hT2
        generalize xs[k] = x at *
        generalize ys[k] = y at *
        generalize csa[k] = xc at *
        generalize csb[k] = yc at *
        have Hr1 := Lib.hid hr1; have Hr2 := Lib.hid hr2
        have Hx := Lib.hid hr1.size; have Hy := Lib.hid hr2.size; have Hx1 := Lib.hid hr1.one; have Hy1 := Lib.hid hr2.one
        clear hr1 hr2 hk1 hk2 hs1 hs2
        go_upto_region 6 with (first
          | (refine wpList_load_seg rfl 97 _ rfl _ _ rfl _ _ hq0 Tryz.underlying97 rfl ?_ ?_; (· rw [Hx.out]; exact infoEn))
          | (refine wpList_alloc_lay rfl 97 rfl zEn zeroEn ?_; (intro w3 g3 hg3 hB3 hb3; clear hq0))
          | (refine wpList_store_all rfl 97 _ _ rfl g3 xc rfl rfl zEn hB3 ?_ ?_ ?_ ?_; (· rw [Hx.out]; exact infoEn); (· exact Hx.out); (· exact Hx1.out); (intro w4 hB4 hgr4; have hb4 := Below.grown hb3 hgr4 hb3.size (fun _ e => by cases e; exact hg3); clear hb3 hgr4 hB3)))
        have hq2 : w4.rangeAt b1 o1 yc := range_below hq1 hb4 hb1
        have HB4 := Lib.hid hB4
        have HW4 : Hid (Below w.heap.size w w4) := Lib.hid (HW.out.trans (hb4.mono HW.out.size))
        clear hq1 hB4 hb4 hg3 hidx0 hb0
        go_upto_region 7 with (first
          | (refine wpList_load_seg rfl 97 _ rfl _ _ rfl _ _ hq2 Tryz.underlying97 rfl ?_ ?_; (· rw [Hy.out]; exact infoEn))
          | (refine wpList_alloc_lay rfl 97 rfl zEn zeroEn ?_; (intro w5 g5 hg5 hB5 hb5; clear hq2))
          | (refine wpList_store_all rfl 97 _ _ rfl g5 yc rfl rfl zEn hB5 ?_ ?_ ?_ ?_; (· rw [Hy.out]; exact infoEn); (· exact Hy.out); (· exact Hy1.out); (intro w6 hB6 hgr6; have hb6 := Below.grown hb5 hgr6 hb5.size (fun _ e => by cases e; exact hg5); clear hb5 hgr6 hB5)))
        have hW3 := (HB4.out.below hb6 HB4.out.lt).whole
        have hW5 := hB6.whole
        have HW6 : Hid (Below w.heap.size w w6) := Lib.hid (HW4.out.trans (hb6.mono HW4.out.size))
        have HC := Lib.hid (sameEnum_any x y xc yc w6 (Hr1.out.mono (below_le HW6.out)) (Hr2.out.mono (below_le HW6.out)))
        obtain ⟨d, hd⟩ : ∃ d, d = decide (x = y) := ⟨_, rfl⟩
        rw [← hd] at HC
        have Hd := Lib.hid hd
        clear hB6 hb6 hg5 hidx1 hb1 hd
        cases d
        · have HDf : Hid (D = false) := Lib.hid (HNo.out (fun e => by have h1 := Hd.out; rw [e] at h1; simp at h1))
          clear HNo HNx Hd
          go_wp2_with (first
            | (refine wpList_load_seg rfl 97 _ rfl _ _ rfl _ _ hW3 Tryz.underlying97 rfl ?_ ?_; (· rw [Hx.out]; exact infoEn))
            | (refine wpList_load_seg rfl 97 _ rfl _ _ rfl _ _ hW5 Tryz.underlying97 rfl ?_ ?_; (· rw [Hy.out]; exact infoEn)))
          refine HC.out.mono ?_
          rintro e w7 ⟨rfl, hb7⟩
          have HW7 : Hid (Below w.heap.size w w7) := Lib.hid (HW6.out.trans (hb7.mono HW6.out.size))
          clear hb7 hW3 hW5
          go_wp2_with fail
          go_ret
          rw [HDf.out]
          exact ⟨rfl, HW7.out⟩
        · have HTn := Lib.hid (HNx.out (of_decide_eq_true Hd.out.symm))
          clear HNo HNx Hd
          go_wp2_with (first
            | (refine wpList_load_seg rfl 97 _ rfl _ _ rfl _ _ hW3 Tryz.underlying97 rfl ?_ ?_; (· rw [Hx.out]; exact infoEn))
            | (refine wpList_load_seg rfl 97 _ rfl _ _ rfl _ _ hW5 Tryz.underlying97 rfl ?_ ?_; (· rw [Hy.out]; exact infoEn)))
          refine HC.out.mono ?_
          rintro e w7 ⟨rfl, hb7⟩
          have HW7 : Hid (Below w.heap.size w w7) := Lib.hid (HW6.out.trans (hb7.mono HW6.out.size))
          clear hb7 hW3 hW5
          go_wp2_with fail
          go_roundw
          case rel => exact ⟨k + 1, by omega, by go_num, HTn, HW7⟩
          case measure => simp [intOf]; omega
      · obtain rfl : n = k := by omega
        have HDt : Hid (D = true) := Lib.hid (by rw [HD.out]; exact decide_eq_true (take_eq_all HT.out (by rw [← HLa.out]; exact Hn1.out) (by rw [← HLb.out]; exact Hn2.out)))
        go_wp2_with fail
        go_ret
        rw [HDt.out]
        exact ⟨rfl, HW.out⟩
  · have hz : (((csa.length : Nat) : Int) != ((csb.length : Nat) : Int)) = true := by simp; omega
    have hz2 : ¬ ((csa.length : Nat) : Int) = ((csb.length : Nat) : Int) := by omega
    have hz3 : (((csa.length : Nat) : Int) == ((csb.length : Nat) : Int)) = false := beq_eq_false_iff_ne.2 hz2
    have hDf : D = false := by rw [hD]; exact decide_eq_false (fun e => hl (by rw [hla, hlb, e]))
    rw [hDf]
    clear hl hD hla hlb hDf
    go_enter Tryz.func49, Tryz.ntmps49
    go_wp2_with fail
    go_ret
    exact ⟨rfl, Below.refl _ _⟩

def SameMsgAt (N : Nat) : Prop := ∀ (a b : Sx.Msg) (ca cb : List Value) (w : World), SizeOf.sizeOf a < N → MsgR (frag w) a ca → MsgR (frag w) b cb →
  Calls Tryz.prog 48 #[.agg ca.toArray, .agg cb.toArray] w fun e w' => e = .returned (.bool (Sx.sameM a b)) ∧ Below w.heap.size w w'
theorem sameMs_false {xs ys : List Sx.Msg} (h : xs ≠ ys) : Sx.sameMs xs ys = false := by
  cases hs : Sx.sameMs xs ys with
  | false => rfl
  | true => exact absurd (Sx.sameMs_eq _ _ hs) h

set_option maxHeartbeats 4000000 in
set_option maxRecDepth 100000 in
theorem eqMsgs_step (N : Nat) (ih : SameMsgAt N) (xs ys : List Sx.Msg) (v1 v2 : Value) (csa csb : List (List Value)) (w : World) (Hsize : ∀ m ∈ xs, SizeOf.sizeOf m < N) (h1 : FlatD 9 (frag w) v1 csa) (r1 : MsgsR (frag w) xs csa) (h2 : FlatD 9 (frag w) v2 csb) (r2 : MsgsR (frag w) ys csb) :
    Calls Tryz.prog 47 #[v1, v2, .func (.func 48) #[] #[]] w fun e w' => e = .returned (.bool (Sx.sameMs xs ys)) ∧ Below w.heap.size w w' := by
  obtain ⟨a1, c1, rfl, _, _, _⟩ := h1.1.len
  obtain ⟨a2, c2, rfl, _, _, _⟩ := h2.1.len
  have HF1 := Lib.hid h1.1; have HF2 := Lib.hid h2.1
  have HR1 := Lib.hid r1; have HR2 := Lib.hid r2
  have hn9 : csa.length ≤ 9223372036854775807 := by have := h1.2; omega
  have hla := r1.len; have hlb := r2.len
  clear h1 h2 r1 r2
  obtain ⟨D, hD⟩ : ∃ D, D = Sx.sameMs xs ys := ⟨_, rfl⟩
  rw [← hD]
  by_cases hl : csa.length = csb.length
  · obtain ⟨n, hn⟩ : ∃ z, z = csa.length := ⟨_, rfl⟩
    have Hn2 : Hid (csb.length = n) := Lib.hid (by rw [hn, hl])
    rw [← hl]
    rw [← hl] at HF2
    rw [← hn] at HF1 HF2 hn9 ⊢
    have Hn1 : Hid (csa.length = n) := Lib.hid hn.symm
    have HLa := Lib.hid hla; have HLb := Lib.hid hlb
    have hz : (((n : Nat) : Int) != ((n : Nat) : Int)) = false := by simp
    have HD := Lib.hid hD
    clear hl hn hD hla hlb
    go_enter Tryz.func47, Tryz.ntmps47
    go_wp2_with fail
    clear hz
    go_loopw [17] (fun iv wr => ∃ k : Nat, k ≤ n ∧ iv = .int .i64 k ∧ Hid (xs.take k = ys.take k) ∧ Hid (Below w.heap.size w wr)) (fun iv _ => n - (intOf iv).toNat)
    case atStart => exact ⟨0, Nat.zero_le _, rfl, Lib.hid rfl, Lib.hid (Below.refl _ _)⟩
    case round =>
      obtain ⟨k, hkn, rfl, HT, HW⟩ := hrel
      by_cases hlt : k < n
      · have hs1 : k < csa.length := by rw [Hn1.out]; exact hlt
        have hs2 : k < csb.length := by rw [Hn2.out]; exact hlt
        have hk1 : k < xs.length := by rw [← HLa.out]; exact hs1
        have hk2 : k < ys.length := by rw [← HLb.out]; exact hs2
        obtain ⟨b0, o0, hb0, hidx0, hcell0⟩ := FlatC.at (n := n) (cap := c1) (a := a1) (HF1.out.mono (below_le HW.out)) (by decide) (i := k) hs1 Tryz.underlying28 sizeSM
        obtain ⟨b1, o1, hb1, hidx1, hcell1⟩ := FlatC.at (n := n) (cap := c2) (a := a2) (HF2.out.mono (below_le HW.out)) (by decide) (i := k) hs2 Tryz.underlying28 sizeSM
        have hr1 := HR1.out.at hk1 hs1
        have hr2 := HR2.out.at hk2 hs2
        have hT1 := List.take_succ_eq_append_getElem hk1
        have hT2 := List.take_succ_eq_append_getElem hk2
        have HNx : Hid (xs[k] = ys[k] → xs.take (k + 1) = ys.take (k + 1)) := Lib.hid (fun e => by rw [hT1, hT2, HT.out, e])
        have HNo : Hid (xs[k] ≠ ys[k] → D = false) := Lib.hid (fun e => by rw [HD.out]; exact sameMs_false (take_ne hk1 hk2 e))
        have Hsz := Lib.hid (Hsize _ (List.getElem_mem hk1))
        have hq0 : wr.rangeAt b0 o0 csa[k] := hcell0
        have hq1 : wr.rangeAt b1 o1 csb[k] := hcell1
        clear hcell0 hcell1 hT1 hT2
        generalize xs[k] = x at *
        generalize ys[k] = y at *
        generalize csa[k] = xc at *
        generalize csb[k] = yc at *
        have Hr1 := Lib.hid hr1; have Hr2 := Lib.hid hr2
        have Hx := Lib.hid hr1.size; have Hy := Lib.hid hr2.size; have Hx1 := Lib.hid hr1.one; have Hy1 := Lib.hid hr2.one
        clear hr1 hr2 hk1 hk2 hs1 hs2
        go_upto_region 6 with (first
          | (refine wpList_load_seg rfl 47 _ rfl _ _ rfl _ _ hq0 Tryz.underlying47 rfl ?_ ?_; (· rw [Hx.out]; exact infoMs))
          | (refine wpList_alloc_lay rfl 47 rfl zMs zeroMs ?_; (intro w3 g3 hg3 hB3 hb3; clear hq0))
          | (refine wpList_store_all rfl 47 _ _ rfl g3 xc rfl rfl zMs hB3 ?_ ?_ ?_ ?_; (· rw [Hx.out]; exact infoMs); (· exact Hx.out); (· exact Hx1.out); (intro w4 hB4 hgr4; have hb4 := Below.grown hb3 hgr4 hb3.size (fun _ e => by cases e; exact hg3); clear hb3 hgr4 hB3)))
        have hq2 : w4.rangeAt b1 o1 yc := range_below hq1 hb4 hb1
        have HB4 := Lib.hid hB4
        have HW4 : Hid (Below w.heap.size w w4) := Lib.hid (HW.out.trans (hb4.mono HW.out.size))
        clear hq1 hB4 hb4 hg3 hidx0 hb0
        go_upto_region 7 with (first
          | (refine wpList_load_seg rfl 47 _ rfl _ _ rfl _ _ hq2 Tryz.underlying47 rfl ?_ ?_; (· rw [Hy.out]; exact infoMs))
          | (refine wpList_alloc_lay rfl 47 rfl zMs zeroMs ?_; (intro w5 g5 hg5 hB5 hb5; clear hq2))
          | (refine wpList_store_all rfl 47 _ _ rfl g5 yc rfl rfl zMs hB5 ?_ ?_ ?_ ?_; (· rw [Hy.out]; exact infoMs); (· exact Hy.out); (· exact Hy1.out); (intro w6 hB6 hgr6; have hb6 := Below.grown hb5 hgr6 hb5.size (fun _ e => by cases e; exact hg5); clear hb5 hgr6 hB5)))
        have hW3 := (HB4.out.below hb6 HB4.out.lt).whole
        have hW5 := hB6.whole
        have HW6 : Hid (Below w.heap.size w w6) := Lib.hid (HW4.out.trans (hb6.mono HW4.out.size))
        have HC := Lib.hid (ih x y xc yc w6 Hsz.out (Hr1.out.mono (below_le HW6.out)) (Hr2.out.mono (below_le HW6.out)))
        obtain ⟨d, hd⟩ : ∃ d, d = Sx.sameM x y := ⟨_, rfl⟩
        rw [← hd] at HC
        have Hd := Lib.hid hd
        clear hB6 hb6 hg5 hidx1 hb1 hd
        cases d
        · have HDf : Hid (D = false) := Lib.hid (HNo.out (fun e => by have h1 := Hd.out; rw [e] at h1; rw [Sx.sameM_refl] at h1; cases h1))
          clear HNo HNx Hd
          go_wp2_with (first
            | (refine wpList_load_seg rfl 47 _ rfl _ _ rfl _ _ hW3 Tryz.underlying47 rfl ?_ ?_; (· rw [Hx.out]; exact infoMs))
            | (refine wpList_load_seg rfl 47 _ rfl _ _ rfl _ _ hW5 Tryz.underlying47 rfl ?_ ?_; (· rw [Hy.out]; exact infoMs)))
          refine HC.out.mono ?_
          rintro e w7 ⟨rfl, hb7⟩
          have HW7 : Hid (Below w.heap.size w w7) := Lib.hid (HW6.out.trans (hb7.mono HW6.out.size))
          clear hb7 hW3 hW5
          go_wp2_with fail
          go_ret
          rw [HDf.out]
          exact ⟨rfl, HW7.out⟩
        · have HTn := Lib.hid (HNx.out (Sx.sameM_eq _ _ Hd.out.symm))
          clear HNo HNx Hd
          go_wp2_with (first
            | (refine wpList_load_seg rfl 47 _ rfl _ _ rfl _ _ hW3 Tryz.underlying47 rfl ?_ ?_; (· rw [Hx.out]; exact infoMs))
            | (refine wpList_load_seg rfl 47 _ rfl _ _ rfl _ _ hW5 Tryz.underlying47 rfl ?_ ?_; (· rw [Hy.out]; exact infoMs)))
          refine HC.out.mono ?_
          rintro e w7 ⟨rfl, hb7⟩
          have HW7 : Hid (Below w.heap.size w w7) := Lib.hid (HW6.out.trans (hb7.mono HW6.out.size))
          clear hb7 hW3 hW5
          go_wp2_with fail
          go_roundw
          case rel => exact ⟨k + 1, by omega, by go_num, HTn, HW7⟩
          case measure => simp [intOf]; omega
      · obtain rfl : n = k := by omega
        have HDt : Hid (D = true) := Lib.hid (by rw [HD.out]; exact (by rw [take_eq_all HT.out (by rw [← HLa.out]; exact Hn1.out) (by rw [← HLb.out]; exact Hn2.out)]; exact Sx.sameMs_refl _))
        go_wp2_with fail
        go_ret
        rw [HDt.out]
        exact ⟨rfl, HW.out⟩
  · have hz : (((csa.length : Nat) : Int) != ((csb.length : Nat) : Int)) = true := by simp; omega
    have hz2 : ¬ ((csa.length : Nat) : Int) = ((csb.length : Nat) : Int) := by omega
    have hz3 : (((csa.length : Nat) : Int) == ((csb.length : Nat) : Int)) = false := beq_eq_false_iff_ne.2 hz2
    have hDf : D = false := by rw [hD]; exact sameMs_false (fun e => hl (by rw [hla, hlb, e]))
    rw [hDf]
    clear hl hD hla hlb hDf
    go_enter Tryz.func47, Tryz.ntmps47
    go_wp2_with fail
    go_ret
    exact ⟨rfl, Below.refl _ _⟩

theorem sameM_mk (nm : Lx.Bs) (fs : List Sx.Fld) (os : List Lx.Bs) (ms : List Sx.Msg) (es : List Sx.Enm) (rs : List Sx.Rng) (ns : List Lx.Bs) (li co : Nat) (nm2 : Lx.Bs) (fs2 : List Sx.Fld) (os2 : List Lx.Bs) (ms2 : List Sx.Msg) (es2 : List Sx.Enm) (rs2 : List Sx.Rng) (ns2 : List Lx.Bs) (li2 co2 : Nat) :
    Sx.sameM (.mk nm fs os ms es rs ns li co) (.mk nm2 fs2 os2 ms2 es2 rs2 ns2 li2 co2) = ((decide (nm = nm2) && decide (li = li2) && decide (co = co2)) && ((decide (fs = fs2) && decide (os = os2) && decide (rs = rs2) && decide (ns = ns2)) && (Sx.sameMs ms ms2 && decide (es = es2)))) := by
  rw [Sx.sameM]; simp only [Bool.and_assoc]
set_option maxHeartbeats 32000000 in
set_option maxRecDepth 100000 in
theorem sameMsg_succ (N : Nat) (ih : SameMsgAt N) : SameMsgAt (N + 1) := by
  intro a b ca cb w hsz ha hb
  obtain ⟨nm, fs, os, ms, es, rs, ns, li, co⟩ := a
  obtain ⟨nm2, fs2, os2, ms2, es2, rs2, ns2, li2, co2⟩ := b
  have hsize : ∀ k ∈ ms, SizeOf.sizeOf k < N := fun k hk => by
    have h1 := List.sizeOf_lt_of_mem hk
    rw [Sx.Msg.mk.sizeOf_spec] at hsz
    omega
  rw [MsgR] at ha hb
  obtain ⟨v1, v2, v3, v4, v5, v6, mss, ess, rfl, ⟨p1, p2, p3, p4, p5, p6⟩, r3, r4⟩ := ha
  obtain ⟨u1, u2, u3, u4, u5, u6, mss2, ess2, rfl, ⟨s1, s2, s3, s4, s5, s6⟩, t3, t4⟩ := hb
  have HE1 := Lib.hid (fun w0 (hb : Below w.heap.size w w0) => eqF_any v1 u1 fs fs2 w0 (p1.mono (below_le hb)) (s1.mono (below_le hb)))
  have HE2 := Lib.hid (fun w0 (hb : Below w.heap.size w w0) => eqS_any v2 u2 os os2 w0 (p2.mono (below_le hb)) (s2.mono (below_le hb)))
  have HE5 := Lib.hid (fun w0 (hb : Below w.heap.size w w0) => eqR_any v5 u5 rs rs2 w0 (p5.mono (below_le hb)) (s5.mono (below_le hb)))
  have HE6 := Lib.hid (fun w0 (hb : Below w.heap.size w w0) => eqS_any v6 u6 ns ns2 w0 (p6.mono (below_le hb)) (s6.mono (below_le hb)))
  have HE3 := Lib.hid (fun w0 (hb : Below w.heap.size w w0) => eqMsgs_step N ih ms ms2 v3 u3 mss mss2 w0 hsize (p3.mono (below_le hb)) (r3.mono (below_le hb)) (s3.mono (below_le hb)) (t3.mono (below_le hb)))
  have HE4 := Lib.hid (fun w0 (hb : Below w.heap.size w w0) => eqEnums_any es es2 v4 u4 ess ess2 w0 (p4.mono (below_le hb)) (r4.mono (below_le hb)) (s4.mono (below_le hb)) (t4.mono (below_le hb)))
  have Hones : Hid (∀ v ∈ [v1, v2, v3, v4, v5, v6, u1, u2, u3, u4, u5, u6], v.oneCell' = true) := Lib.hid (by
    intro v hv; simp only [List.mem_cons, List.not_mem_nil, or_false] at hv
    rcases hv with rfl | rfl | rfl | rfl | rfl | rfl | rfl | rfl | rfl | rfl | rfl | rfl
    all_goals first | exact flatV_one (by assumption) | exact flatC_one (by assumption))
  have q1 := toB_beq nm nm2
  have q2 := nat_beq li li2
  have q3 := nat_beq co co2
  rw [sameM_mk]
  clear p1 p2 p3 p4 p5 p6 s1 s2 s3 s4 s5 s6 r3 r4 t3 t4 hsz hsize
  generalize decide (nm = nm2) = d1 at *
  generalize decide (li = li2) = d2 at *
  generalize decide (co = co2) = d3 at *
  generalize decide (fs = fs2) = e1 at *
  generalize decide (os = os2) = e2 at *
  generalize decide (rs = rs2) = e3 at *
  generalize decide (ns = ns2) = e4 at *
  generalize Sx.sameMs ms ms2 = f1 at *
  generalize decide (es = es2) = f2 at *
  rcases and3 d1 d2 d3 with rfl | ⟨rfl, rfl⟩ | ⟨rfl, rfl, rfl⟩ | ⟨rfl, rfl, rfl⟩
  all_goals rcases and4 e1 e2 e3 e4 with rfl | ⟨rfl, rfl⟩ | ⟨rfl, rfl, rfl⟩ | ⟨rfl, rfl, rfl, rfl⟩ | ⟨rfl, rfl, rfl, rfl⟩
  all_goals
    simp only [Bool.false_and, Bool.true_and, Bool.and_false]
    go_enter Tryz.func48, Tryz.ntmps48
    go_upto_region 1 with (first
      | (refine wpList_box_lay rfl 47 _ rfl [.string (toB nm), v1, v2, v3, v4, v5, v6, .int .i64 li, .int .i64 co] rfl ?_; (intro w1 g1 hg1 hB1 hb1))
      | (refine wpList_box_lay rfl 47 _ rfl [.string (toB nm2), u1, u2, u3, u4, u5, u6, .int .i64 li2, .int .i64 co2] rfl ?_; (intro w2 g2 hg2 hB2 hb2)))
    have HB : Hid (Blk w2 g1 [.string (toB nm), v1, v2, v3, v4, v5, v6, .int .i64 li, .int .i64 co] ∧ Blk w2 g2 [.string (toB nm2), u1, u2, u3, u4, u5, u6, .int .i64 li2, .int .i64 co2]) := Lib.hid ⟨hB1.below hb2 hB1.lt, hB2⟩
    have HW : Hid (Below w.heap.size w w2) := Lib.hid (hb1.trans (hb2.mono hb1.size))
    clear hB1 hb1 hB2 hb2 hg1 hg2
    have x0 := HB.out.1.cell (o := 0) rfl; have y0 := HB.out.2.cell (o := 0) rfl
    have x7 := HB.out.1.cell (o := 7) rfl; have y7 := HB.out.2.cell (o := 7) rfl
    have x8 := HB.out.1.cell (o := 8) rfl; have y8 := HB.out.2.cell (o := 8) rfl
    go_upto_region 2 with fail
    clear x0 x7 x8 y0 y7 y8 q1 q2 q3
    have x1 := HB.out.1.cell (o := 1) rfl; have y1 := HB.out.2.cell (o := 1) rfl
    go_upto_region 3 with (first
      | (go_at_call 82; (with_reducible refine (HE1.out _ HW.out).mono ?_); rintro e w3 ⟨rfl, hb3⟩; replace HW := Lib.hid (HW.out.trans (hb3.mono HW.out.size)); replace HB := Lib.hid (And.intro (HB.out.1.below hb3 HB.out.1.lt) (HB.out.2.below hb3 HB.out.2.lt)); clear hb3 x1 y1; have x2 := HB.out.1.cell (o := 2) rfl; have y2 := HB.out.2.cell (o := 2) rfl)
      | (go_at_call 83; (with_reducible refine (HE2.out _ HW.out).mono ?_); rintro e w3 ⟨rfl, hb3⟩; replace HW := Lib.hid (HW.out.trans (hb3.mono HW.out.size)); replace HB := Lib.hid (And.intro (HB.out.1.below hb3 HB.out.1.lt) (HB.out.2.below hb3 HB.out.2.lt)); clear hb3 x2 y2; have x5 := HB.out.1.cell (o := 5) rfl; have y5 := HB.out.2.cell (o := 5) rfl)
      | (go_at_call 84; (with_reducible refine (HE5.out _ HW.out).mono ?_); rintro e w3 ⟨rfl, hb3⟩; replace HW := Lib.hid (HW.out.trans (hb3.mono HW.out.size)); replace HB := Lib.hid (And.intro (HB.out.1.below hb3 HB.out.1.lt) (HB.out.2.below hb3 HB.out.2.lt)); clear hb3 x5 y5; have x6 := HB.out.1.cell (o := 6) rfl; have y6 := HB.out.2.cell (o := 6) rfl)
      | (go_at_call 83; (with_reducible refine (HE6.out _ HW.out).mono ?_); rintro e w3 ⟨rfl, hb3⟩; replace HW := Lib.hid (HW.out.trans (hb3.mono HW.out.size)); replace HB := Lib.hid (And.intro (HB.out.1.below hb3 HB.out.1.lt) (HB.out.2.below hb3 HB.out.2.lt)); clear hb3 x6 y6))
  iterate 19
    · go_wp2_with fail
      go_ret
      exact ⟨rfl, HW.out⟩
  have x3 := HB.out.1.cell (o := 3) rfl; have y3 := HB.out.2.cell (o := 3) rfl
  cases f1
  all_goals
    go_wp2_with (first
      | (go_at_call 47; (with_reducible refine (HE3.out _ HW.out).mono ?_); rintro e w3 ⟨rfl, hb3⟩; replace HW := Lib.hid (HW.out.trans (hb3.mono HW.out.size)); replace HB := Lib.hid (And.intro (HB.out.1.below hb3 HB.out.1.lt) (HB.out.2.below hb3 HB.out.2.lt)); clear hb3 x3 y3; have x4 := HB.out.1.cell (o := 4) rfl; have y4 := HB.out.2.cell (o := 4) rfl)
      | (go_at_call 49; (with_reducible refine (HE4.out _ HW.out).mono ?_); rintro e w3 ⟨rfl, hb3⟩; replace HW := Lib.hid (HW.out.trans (hb3.mono HW.out.size)); replace HB := Lib.hid (And.intro (HB.out.1.below hb3 HB.out.1.lt) (HB.out.2.below hb3 HB.out.2.lt)); clear hb3 x4 y4))
    go_ret
    exact ⟨rfl, HW.out⟩

theorem sameMsg_at : ∀ N, SameMsgAt N
  | 0 => fun a b ca cb w h => absurd h (Nat.not_lt_zero _)
  | N + 1 => sameMsg_succ N (sameMsg_at N)

set_option maxHeartbeats 8000000 in
set_option maxRecDepth 100000 in
theorem same_any (f g : Sx.Fil) (ca cb : List Value) (w : World) (ha : FilR (frag w) f ca) (hb : FilR (frag w) g cb) :
    Calls Tryz.prog 17 #[.agg ca.toArray, .agg cb.toArray] w fun e w' => e = .returned (.bool (Sx.sameL f g)) ∧ Below w.heap.size w w' := by
  obtain ⟨v1, v2, mss, ess, rfl, ⟨p1, p2⟩, r1, r2⟩ := ha
  obtain ⟨u1, u2, mss2, ess2, rfl, ⟨s1, s2⟩, t1, t2⟩ := hb
  have HE3 := Lib.hid (fun w0 (hb : Below w.heap.size w w0) => eqMsgs_step _ (sameMsg_at (SizeOf.sizeOf f.msgs + 1)) f.msgs g.msgs v1 u1 mss mss2 w0 (fun m hm => by have := List.sizeOf_lt_of_mem hm; omega) (p1.mono (below_le hb)) (r1.mono (below_le hb)) (s1.mono (below_le hb)) (t1.mono (below_le hb)))
  have HE4 := Lib.hid (fun w0 (hb : Below w.heap.size w w0) => eqEnums_any f.enums g.enums v2 u2 ess ess2 w0 (p2.mono (below_le hb)) (r2.mono (below_le hb)) (s2.mono (below_le hb)) (t2.mono (below_le hb)))
  have q1 := toB_beq f.pack g.pack
  unfold Sx.sameL
  clear p1 p2 r1 r2 s1 s2 t1 t2
  generalize decide (f.pack = g.pack) = d1 at *
  generalize Sx.sameMs f.msgs g.msgs = f1 at *
  generalize decide (f.enums = g.enums) = f2 at *
  rcases and3 d1 f1 true with rfl | ⟨rfl, rfl⟩ | ⟨rfl, rfl, h⟩ | ⟨rfl, rfl, _⟩
  · skip
    go_enter Tryz.func17, Tryz.ntmps17
    go_upto_region 1 with (first
      | (refine wpList_box_lay rfl 31 _ rfl [.string (toB f.pack), v1, v2] rfl ?_; (intro w1 g1 hg1 hB1 hb1))
      | (refine wpList_box_lay rfl 31 _ rfl [.string (toB g.pack), u1, u2] rfl ?_; (intro w2 g2 hg2 hB2 hb2)))
    have HB : Hid (Blk w2 g1 [.string (toB f.pack), v1, v2] ∧ Blk w2 g2 [.string (toB g.pack), u1, u2]) := Lib.hid ⟨hB1.below hb2 hB1.lt, hB2⟩
    have HW : Hid (Below w.heap.size w w2) := Lib.hid (hb1.trans (hb2.mono hb1.size))
    clear hB1 hb1 hB2 hb2 hg1 hg2
    have x0 := HB.out.1.cell (o := 0) rfl; have y0 := HB.out.2.cell (o := 0) rfl
    have x1 := HB.out.1.cell (o := 1) rfl; have y1 := HB.out.2.cell (o := 1) rfl
    go_wp2_with (first
      | (go_at_call 47; (with_reducible refine (HE3.out _ HW.out).mono ?_); rintro e w3 ⟨rfl, hb3⟩; replace HW := Lib.hid (HW.out.trans (hb3.mono HW.out.size)); replace HB := Lib.hid (And.intro (HB.out.1.below hb3 HB.out.1.lt) (HB.out.2.below hb3 HB.out.2.lt)); clear hb3 x1 y1; have x2 := HB.out.1.cell (o := 2) rfl; have y2 := HB.out.2.cell (o := 2) rfl)
      | (go_at_call 49; (with_reducible refine (HE4.out _ HW.out).mono ?_); rintro e w3 ⟨rfl, hb3⟩; replace HW := Lib.hid (HW.out.trans (hb3.mono HW.out.size)); replace HB := Lib.hid (And.intro (HB.out.1.below hb3 HB.out.1.lt) (HB.out.2.below hb3 HB.out.2.lt)); clear hb3 x2 y2))
    go_ret
    exact ⟨rfl, HW.out⟩
  · skip
    go_enter Tryz.func17, Tryz.ntmps17
    go_upto_region 1 with (first
      | (refine wpList_box_lay rfl 31 _ rfl [.string (toB f.pack), v1, v2] rfl ?_; (intro w1 g1 hg1 hB1 hb1))
      | (refine wpList_box_lay rfl 31 _ rfl [.string (toB g.pack), u1, u2] rfl ?_; (intro w2 g2 hg2 hB2 hb2)))
    have HB : Hid (Blk w2 g1 [.string (toB f.pack), v1, v2] ∧ Blk w2 g2 [.string (toB g.pack), u1, u2]) := Lib.hid ⟨hB1.below hb2 hB1.lt, hB2⟩
    have HW : Hid (Below w.heap.size w w2) := Lib.hid (hb1.trans (hb2.mono hb1.size))
    clear hB1 hb1 hB2 hb2 hg1 hg2
    have x0 := HB.out.1.cell (o := 0) rfl; have y0 := HB.out.2.cell (o := 0) rfl
    have x1 := HB.out.1.cell (o := 1) rfl; have y1 := HB.out.2.cell (o := 1) rfl
    go_wp2_with (first
      | (go_at_call 47; (with_reducible refine (HE3.out _ HW.out).mono ?_); rintro e w3 ⟨rfl, hb3⟩; replace HW := Lib.hid (HW.out.trans (hb3.mono HW.out.size)); replace HB := Lib.hid (And.intro (HB.out.1.below hb3 HB.out.1.lt) (HB.out.2.below hb3 HB.out.2.lt)); clear hb3 x1 y1; have x2 := HB.out.1.cell (o := 2) rfl; have y2 := HB.out.2.cell (o := 2) rfl)
      | (go_at_call 49; (with_reducible refine (HE4.out _ HW.out).mono ?_); rintro e w3 ⟨rfl, hb3⟩; replace HW := Lib.hid (HW.out.trans (hb3.mono HW.out.size)); replace HB := Lib.hid (And.intro (HB.out.1.below hb3 HB.out.1.lt) (HB.out.2.below hb3 HB.out.2.lt)); clear hb3 x2 y2))
    go_ret
    exact ⟨rfl, HW.out⟩
  · cases h
  · skip
    go_enter Tryz.func17, Tryz.ntmps17
    go_upto_region 1 with (first
      | (refine wpList_box_lay rfl 31 _ rfl [.string (toB f.pack), v1, v2] rfl ?_; (intro w1 g1 hg1 hB1 hb1))
      | (refine wpList_box_lay rfl 31 _ rfl [.string (toB g.pack), u1, u2] rfl ?_; (intro w2 g2 hg2 hB2 hb2)))
    have HB : Hid (Blk w2 g1 [.string (toB f.pack), v1, v2] ∧ Blk w2 g2 [.string (toB g.pack), u1, u2]) := Lib.hid ⟨hB1.below hb2 hB1.lt, hB2⟩
    have HW : Hid (Below w.heap.size w w2) := Lib.hid (hb1.trans (hb2.mono hb1.size))
    clear hB1 hb1 hB2 hb2 hg1 hg2
    have x0 := HB.out.1.cell (o := 0) rfl; have y0 := HB.out.2.cell (o := 0) rfl
    have x1 := HB.out.1.cell (o := 1) rfl; have y1 := HB.out.2.cell (o := 1) rfl
    go_wp2_with (first
      | (go_at_call 47; (with_reducible refine (HE3.out _ HW.out).mono ?_); rintro e w3 ⟨rfl, hb3⟩; replace HW := Lib.hid (HW.out.trans (hb3.mono HW.out.size)); replace HB := Lib.hid (And.intro (HB.out.1.below hb3 HB.out.1.lt) (HB.out.2.below hb3 HB.out.2.lt)); clear hb3 x1 y1; have x2 := HB.out.1.cell (o := 2) rfl; have y2 := HB.out.2.cell (o := 2) rfl)
      | (go_at_call 49; (with_reducible refine (HE4.out _ HW.out).mono ?_); rintro e w3 ⟨rfl, hb3⟩; replace HW := Lib.hid (HW.out.trans (hb3.mono HW.out.size)); replace HB := Lib.hid (And.intro (HB.out.1.below hb3 HB.out.1.lt) (HB.out.2.below hb3 HB.out.2.lt)); clear hb3 x2 y2))
    go_ret
    exact ⟨rfl, HW.out⟩

end Go.Proofs.YtiofhfcohhfihaaGreatDoor
