/- The rower of apply: next, keep, drop, put, change, walked. -/
import Derived.Test.YtkldcjlkeblggaaDoorDKit
namespace Go.Proofs.YtkldcjlkeblggaaDoor
open Go.RowKit
open Val (V E cmp right eright esm v0 Res ado get find withV putV)
set_option linter.unusedVariables false
set_option linter.unusedSimpArgs false
variable {Fx : List (Option Nat)}

theorem sizeVs (w : World) : (Go.sizeOf (Tryd.prog.elem 24)).run Tryd.prog w = .ok 7 w := by kernel_rfl
theorem info1s : (Tryd.prog.info? 24).map (·.size) = some 1 := by kernel_rfl

/-- what the rower's block holds -/
structure RowAt (Fx : List (Option Nat)) (w : World) (gr : Nat) (av : Option Addr) (n cap : Nat) (ov : Value) (l o : List V) (les oes : List (List Value)) : Prop where
  blk : Blk w gr [.slice av n cap, ov]
  left : FlatC 7 (fragE w (some gr :: ov.ownBlock :: Fx)) (.slice av n cap) les
  lr : LsR (fragE w (some gr :: ov.ownBlock :: Fx)) l les
  own : w.ownsRow (gr + 1) 27 7 ov o.length oes.flatten
  or : LsR (fragE w (some gr :: ov.ownBlock :: Fx)) o oes

def NextPost (er : Errs) (w : World) (gr : Nat) (av : Option Addr) (n cap : Nat) (ov : Value) (k : Nat) (e : Ending) (w' : World) : Prop :=
  w.grownBy w' (some gr) ∧ w'.heap.size = w.heap.size ∧ (if n < k then e = .returned (.tuple #[.slice none 0 0, er.c]) ∧ Blk w' gr [.slice av n cap, ov] else e = .returned (.tuple #[.slice av k cap, .nilIface]) ∧ Blk w' gr [.slice (partAt av cap k 7) (n - k) (cap - k), ov])

set_option maxRecDepth 100000 in
set_option maxHeartbeats 1000000 in
theorem next_any (er : Errs) (w : World) (he : ErrsAt er w) (gr : Nat) (av : Option Addr) (n cap k : Nat) (ov : Value) (hb : Blk w gr [.slice av n cap, ov]) (hn : n ≤ cap) (hc : cap ≤ maxLen) (h0 : av = none → cap = 0) (hk : k ≤ 9223372036854775807) :
    Calls Tryd.prog 78 #[.pointer (some ⟨gr, 0, none⟩), .int .i64 (k : Nat)] w (NextPost er w gr av n cap ov k) := by
  unfold maxLen at hc
  have q0 := hb.cell (o := 0) rfl
  have hE := he.c
  have HB := Lib.hid hb
  by_cases hlt : n < k
  · have g1 : decide ((n : Int) < (k : Int)) = true := decide_eq_true (by omega)
    have g2 : decide (n < k) = true := decide_eq_true hlt
    have Hp : Hid (NextPost er w gr av n cap ov k = fun e w' => w.grownBy w' (some gr) ∧ w'.heap.size = w.heap.size ∧ e = .returned (.tuple #[.slice none 0 0, er.c]) ∧ Blk w' gr [.slice av n cap, ov]) := by
      show _ = _
      funext e w'; unfold NextPost; rw [if_pos hlt]
    rw [Hp.out]
    go_enter Tryd.func78, Tryd.ntmps78
    go_wp2_with fail
    go_quiet (fail)
    all_goals
      go_wp2_with fail
      go_ret2
      exact ⟨⟨rfl, rfl, rfl, Nat.le_refl _, fun _ _ _ => rfl⟩, rfl, rfl, HB.out⟩
  · have g1 : decide ((n : Int) < (k : Int)) = false := decide_eq_false (by omega)
    have g2 : decide (n < k) = false := decide_eq_false hlt
    have Hp : Hid (NextPost er w gr av n cap ov k = fun e w' => w.grownBy w' (some gr) ∧ w'.heap.size = w.heap.size ∧ e = .returned (.tuple #[.slice av k cap, .nilIface]) ∧ Blk w' gr [.slice (partAt av cap k 7) (n - k) (cap - k), ov]) := by
      show _ = _
      funext e w'; unfold NextPost; rw [if_neg hlt]
    rw [Hp.out]
    have e1 := run_to (P := Tryd.prog) (t := 24) (s := 7) (a := av) (n := n) (cap := cap) (i := k) Tryd.underlying24 sizeVs (by omega) h0
    have e2 := run_from (P := Tryd.prog) (t := 24) (s := 7) (a := av) (n := n) (cap := cap) (i := k) Tryd.underlying24 sizeVs (by omega) hn h0
    clear h0
    go_enter Tryd.func78, Tryd.ntmps78
    go_wp2_with (first
      | (refine wpList_store_blk1 rfl 24 _ _ rfl gr 0 _ rfl rfl _ HB.out info1s (show 0 + 1 ≤ 2 by decide) rfl ?_; (intro w2 hB2 hg2 hs2)))
    go_ret2
    exact ⟨hg2, hs2, rfl, hB2⟩

theorem LsR.append {h : Frag} : ∀ {xs ys : List V} {es gs : List (List Value)}, LsR h xs es → LsR h ys gs → LsR h (xs ++ ys) (es ++ gs)
  | [], ys, es, gs, h1, h2 => by rw [LsR] at h1; subst h1; exact h2
  | x :: r, ys, es, gs, h1, h2 => by
    rw [LsR] at h1
    obtain ⟨xc, er, rfl, h3, h4⟩ := h1
    simp only [List.cons_append]; rw [LsR]
    exact ⟨xc, _, rfl, h3, h4.append h2⟩
theorem LsR.part {h : Frag} : ∀ {xs : List V} {es : List (List Value)} (k : Nat), LsR h xs es → LsR h (xs.take k) (es.take k) ∧ LsR h (xs.drop k) (es.drop k)
  | xs, es, 0, h1 => by simp only [List.take_zero, List.drop_zero]; exact ⟨by rw [LsR], h1⟩
  | [], es, k + 1, h1 => by rw [LsR] at h1; subst h1; simp only [List.take_nil, List.drop_nil]; exact ⟨by rw [LsR], by rw [LsR]⟩
  | x :: r, es, k + 1, h1 => by
    rw [LsR] at h1
    obtain ⟨xc, er, rfl, h3, h4⟩ := h1
    have := h4.part k
    simp only [List.take_succ_cons, List.drop_succ_cons]
    refine ⟨?_, this.2⟩
    rw [LsR]; exact ⟨xc, _, rfl, h3, this.1⟩
theorem T_val : SliceT Tryd.prog 24 27 (.agg zV.toArray) 7 120 := ⟨Tryd.underlying24, by kernel_rfl, rfl, by decide, by decide⟩

theorem RowAt.keep {w w' : World} {gr n cap : Nat} {av : Option Addr} {ov : Value} {l o : List V} {les oes : List (List Value)} (h : RowAt Fx w gr av n cap ov l o les oes) (hb : Below w.heap.size w w') : RowAt Fx w' gr av n cap ov l o les oes := by
  have hle : FLe (fragE w (some gr :: ov.ownBlock :: Fx)) (fragE w' (some gr :: ov.ownBlock :: Fx)) := belowE hb (fun _ h => .inl h)
  exact ⟨h.blk.below hb h.blk.lt, h.left.mono hle, h.lr.mono hle, owns_below h.own hb, h.or.mono hle⟩
theorem RowAt.own_ne {w : World} {gr n cap : Nat} {av : Option Addr} {ov : Value} {l o : List V} {les oes : List (List Value)} (h : RowAt Fx w gr av n cap ov l o les oes) : some gr ≠ ov.ownBlock := fun e => by
  have := (h.own.lt gr e.symm).1; omega
theorem owns_one {w : World} {base : Nat} {e : TypeId} {size n : Nat} {v : Value} {xs : List Value} (h : w.ownsRow base e size v n xs) : v.oneCell' = true := by
  rcases h.2 with ⟨rfl, _⟩ | ⟨g, cap, cur, rfl, _⟩ <;> rfl
theorem FlatC.row {s : Nat} {h : Frag} {a : Option Addr} {n cap : Nat} {es : List (List Value)} (hl : FlatC s h (.slice a n cap) es) : HRow h a es.flatten := by
  obtain ⟨a', cap', e, _, _, _, hrow, _⟩ := hl
  simp only [Value.slice.injEq] at e
  obtain ⟨rfl, _, rfl⟩ := e
  exact hrow
/-- what a step answers -/
def StepPost (er : Errs) (Fx : List (Option Nat)) (w : World) (gr : Nat) (r : Res (List V × List V)) (e : Ending) (w' : World) : Prop :=
  Below gr w w' ∧ match r with
  | .bad b => e = .returned (er.of b)
  | .ok (l', o') => e = .returned .nilIface ∧ ∃ av n cap ov les oes, RowAt Fx w' gr av n cap ov l' o' les oes

set_option maxRecDepth 100000 in
set_option maxHeartbeats 1000000 in
theorem keep_any (er : Errs) (w : World) (he : ErrsAt er w) (gr : Nat) (av : Option Addr) (n cap : Nat) (ov : Value) (l o : List V) (les oes : List (List Value)) (hr : RowAt Fx w gr av n cap ov l o les oes) (k : Int) (c : Nat) (yc : List Value) (hc : c ≤ 9223372036854775807) (hlen : l.length + o.length ≤ 1000000000) :
    Calls Tryd.prog 67 #[.pointer (some ⟨gr, 0, none⟩), .agg (Value.int .i64 k :: .int .i64 (c : Nat) :: yc).toArray] w (StepPost er Fx w gr (Val.keepR c l o)) := by
  have hll := hr.lr.len
  obtain ⟨a', cap', e, h1, h2, h0, _, hs7⟩ := hr.left
  cases e
  have HR := Lib.hid (fun (wx : World) (hb : Below w.heap.size w wx) => hr.keep hb)
  have HS := Lib.hid (fun (w2 : World) (g : Nat) (hB : Blk w2 g (.int .i64 k :: .int .i64 (c : Nat) :: yc)) => hB.cell (o := 1) rfl)
  have HN := Lib.hid (fun (wx : World) (hb : Below w.heap.size w wx) => next_any er wx (he.keep hb) gr av les.length cap c ov ((HR.out wx hb).blk) h1 h2 h0 hc)
  have Hlt := Lib.hid hr.blk.lt
  have Hll := Lib.hid hll
  clear hr he hs7 hll
  have Hpost : Hid (l.length = les.length) := Hll.out.symm
  by_cases hlt : les.length < c
  · have hK : Val.keepR c l o = .bad 13 := if_pos (by rw [Hpost.out]; exact hlt)
    rw [hK]
    clear hK
    go_enter Tryd.func67, Tryd.ntmps67
    go_wp2_with (first
      | (refine wpList_box_lay rfl 55 _ rfl _ rfl ?_; (intro w0 g0 hg0 hB0 hb0; have q1 := HS.out w0 g0 hB0)))
    refine (HN.out _ hb0).mono ?_
    rintro e w1 ⟨hg1, hs1, hx⟩
    rw [if_pos hlt] at hx
    obtain ⟨rfl, hB1⟩ := hx
    have H1 := Lib.hid (HR.out _ hb0)
    have Hown : Hid (w1.ownsRow (gr + 1) 27 7 ov o.length oes.flatten) := H1.out.own.kept hg1 (.inr (fun e => H1.out.own_ne e.symm))
    have Hb1 : Hid (Below gr w w1) := Below.grown (hb0.mono (Nat.le_of_lt Hlt.out)) hg1 (Nat.le_trans (Nat.le_of_lt Hlt.out) hb0.size) (fun _ e => by cases e; exact Nat.le_refl _)
    have q2 := hB1.cell (o := 1) rfl
    have HB1 := Lib.hid hB1
    have hgs := Lib.hid (Nat.le_of_lt hB1.lt)
    clear hB1 hg1 hs1
    go_wp2_with (first
      | (at_builtin; refine wpList_append_opt T_val (v := ov) (ad := none) (m := 0) (c := 0) (news := []) rfl _ _ rfl rfl Hown.out rfl (fun _ => rfl) (Nat.le_refl _) (.inl rfl) rfl (by simp) (by omega) (Nat.succ_le_of_lt HB1.out.lt) ?_; (intro v2 w2 ho2 hg2 hat; have hB2 := HB1.out.grown hg2 H1.out.own_ne; have hb2 := Below.grown Hb1.out hg2 hgs.out (fun k e => by have := (Hown.out.lt k e).1; omega)))
      | (refine wpList_store_blk1 rfl 24 _ _ rfl gr 1 _ rfl rfl [.slice av les.length cap, ov] (by assumption) info1s (show 1 + 1 ≤ 2 by decide) ?_ ?_; (· exact owns_one ho2); (intro w3 hB3 hg3 hs3)))
    go_ret
    exact ⟨Below.grown hb2 hg3 (Nat.le_trans hgs.out hg2.size) (fun _ e => by cases e; exact Nat.le_refl _), rfl⟩
  · have hK : Val.keepR c l o = .ok (l.drop c, o ++ l.take c) := if_neg (by rw [Hpost.out]; exact hlt)
    rw [hK]
    clear hK
    go_enter Tryd.func67, Tryd.ntmps67
    go_wp2_with (first
      | (refine wpList_box_lay rfl 55 _ rfl _ rfl ?_; (intro w0 g0 hg0 hB0 hb0; have q1 := HS.out w0 g0 hB0)))
    refine (HN.out _ hb0).mono ?_
    rintro e w1 ⟨hg1, hs1, hx⟩
    rw [if_neg hlt] at hx
    obtain ⟨rfl, hB1⟩ := hx
    have H1 := Lib.hid (HR.out _ hb0)
    have Hown : Hid (w1.ownsRow (gr + 1) 27 7 ov o.length oes.flatten) := H1.out.own.kept hg1 (.inr (fun e => H1.out.own_ne e.symm))
    have Hb1 : Hid (Below gr w w1) := Below.grown (hb0.mono (Nat.le_of_lt Hlt.out)) hg1 (Nat.le_trans (Nat.le_of_lt Hlt.out) hb0.size) (fun _ e => by cases e; exact Nat.le_refl _)
    have hle1 : FLe (fragE w0 (some gr :: ov.ownBlock :: Fx)) (fragE w1 (some gr :: ov.ownBlock :: Fx)) := grownE hg1 (.inr (by simp)) (fun _ h => .inl h)
    have Hle1 := Lib.hid hle1
    have Hrow := Lib.hid ((((H1.out.left.mono hle1).take (k := c) (by omega)).row).mono (fragE_le _ _))
    have hts : ∀ e ∈ les.take c, e.length = 7 := fun e he => H1.out.left.sizes e (List.mem_of_mem_take he)
    have htl : (les.take c).length = c := by rw [List.length_take]; omega
    have Hfl : Hid ((les.take c).flatten.length = c * 7) := by
      show _ = _
      rw [flatten_len hts, htl]
    have Hone := Lib.hid (oneF (es := les.take c) (fun e => one7) (fun e he => H1.out.lr.shapes e (List.mem_of_mem_take he)))
    have hc2 : l.length = les.length := Hpost.out
    have hN : (o.length + c) * 120 ≤ 140737488355328 := by omega
    have hcc : c ≤ cap := by omega
    have q2 := hB1.cell (o := 1) rfl
    have HB1 := Lib.hid hB1
    have hgs := Lib.hid (Nat.le_of_lt hB1.lt)
    have Htl := Lib.hid htl
    clear hB1 hs1 hle1 hts htl hc2
    have Hg1 := Lib.hid hg1; clear hg1
    go_wp2_with (first
      | (at_builtin; refine wpList_append_opt T_val (v := ov) (ad := av) (m := c) (c := cap) (news := (les.take c).flatten) rfl _ _ rfl rfl Hown.out rfl h0 hcc Hrow.out Hfl.out Hone.out hN (Nat.succ_le_of_lt HB1.out.lt) ?_; (intro v2 w2 ho2 hg2 hat; have hB2 := HB1.out.grown hg2 H1.out.own_ne; have hb2 := Below.grown Hb1.out hg2 hgs.out (fun k e => by have := (Hown.out.lt k e).1; omega)))
      | (refine wpList_store_blk1 rfl 24 _ _ rfl gr 1 _ rfl rfl _ hB2 info1s (show 1 + 1 ≤ 2 by decide) ?_ ?_; (· exact owns_one ho2); (intro w3 hB3 hg3 hs3)))
    go_ret
    have hle2 : FLe (fragE w1 (some gr :: ov.ownBlock :: Fx)) (fragE w2 (some gr :: v2.ownBlock :: Fx)) := grownE hg2 (.inr (by simp)) (fun k hk => by
      simp only [List.mem_cons] at hk ⊢
      rcases hk with hk | hk | hk
      · exact .inl (.inl hk)
      · rcases hat with h | h
        · left; right; left; rw [hk, h]
        · right; rw [h] at hk; cases hk; exact Nat.le_refl _
      · exact .inl (.inr (.inr hk)))
    have hle3 : FLe (fragE w2 (some gr :: v2.ownBlock :: Fx)) (fragE w3 (some gr :: v2.ownBlock :: Fx)) := grownE hg3 (.inr (by simp)) (fun _ h => .inl h)
    have hle := Hle1.out.trans (hle2.trans hle3)
    have hne : some gr ≠ v2.ownBlock := fun e => by have := (ho2.lt gr e.symm).1; omega
    refine ⟨Below.grown hb2 hg3 (Nat.le_trans hgs.out hg2.size) (fun _ e => by cases e; exact Nat.le_refl _), rfl, _, _, _, _, _, _, ⟨hB3, (H1.out.left.mono hle).drop (by omega), ((H1.out.lr.mono hle).part c).2, ?_, (H1.out.or.mono hle).append ((H1.out.lr.mono hle).part c).1⟩⟩
    have ho3 := ho2.kept hg3 (.inr (fun e => hne e.symm))
    rw [List.flatten_append, List.length_append, List.length_take, Nat.min_eq_left (by rw [Hpost.out]; omega)]
    exact ho3

set_option maxRecDepth 100000 in
set_option maxHeartbeats 1000000 in
theorem drop_any (er : Errs) (w : World) (he : ErrsAt er w) (gr : Nat) (hG : ErrsLt gr) (av : Option Addr) (n cap : Nat) (ov : Value) (l o : List V) (les oes : List (List Value)) (hr : RowAt Fx w gr av n cap ov l o les oes) (k c : Int) (v : V) (vc xc : List Value) (hv : VR (fragE w (some gr :: ov.ownBlock :: Fx)) v vc) :
    Calls Tryd.prog 68 #[.pointer (some ⟨gr, 0, none⟩), .agg (Value.int .i64 k :: .int .i64 c :: (vc ++ xc)).toArray] w (StepPost er Fx w gr (Val.dropR v l o)) := by
  have hll := hr.lr.len
  have hle7 := hr.left
  obtain ⟨a', cap', e, h1, h2, h0, _, hs7⟩ := hr.left
  cases e
  have HR := Lib.hid (fun (wx : World) (hb : Below w.heap.size w wx) => hr.keep hb)
  have HS := Lib.hid (fun (w2 : World) (g : Nat) (hB : Blk w2 g (.int .i64 k :: .int .i64 c :: (vc ++ xc))) => hB.range (p := [.int .i64 k, .int .i64 c]) (q := vc) (r := xc) rfl rfl)
  have HN := Lib.hid (fun (wx : World) (hb : Below w.heap.size w wx) => next_any er wx (he.keep hb) gr av les.length cap 1 ov ((HR.out wx hb).blk) h1 h2 h0 (by decide))
  have HE := Lib.hid (fun (wx : World) (hb : Below gr w wx) => (he.below hG hb).c)
  have Hlt := Lib.hid hr.blk.lt
  have HLv := Lib.hid hv.len
  cases l with
  | nil =>
    have hl0 : les.length = 0 := by rw [hll]; rfl
    have hK : Val.dropR v [] o = .bad 13 := rfl
    rw [hK]
    clear hr he h0 hs7 hll hv hK hle7
    go_enter Tryd.func68, Tryd.ntmps68
    go_wp2_with (first
      | (refine wpList_box_lay rfl 55 _ rfl _ rfl ?_; (intro w0 g0 hg0 hB0 hb0; have q1 := HS.out w0 g0 hB0)))
    refine (HN.out _ hb0).mono ?_
    rintro e w1 ⟨hg1, hs1, hx⟩
    rw [if_pos (by omega)] at hx
    obtain ⟨rfl, hB1⟩ := hx
    have Hb1 : Hid (Below gr w w1) := Below.grown (hb0.mono (Nat.le_of_lt Hlt.out)) hg1 (Nat.le_trans (Nat.le_of_lt Hlt.out) hb0.size) (fun _ e => by cases e; exact Nat.le_refl _)
    clear hl0
    go_wp2_with fail
    go_quiet (fail)
    all_goals
      go_wp2_with fail
      go_ret
      exact ⟨Below.drewN Hb1.out _, rfl⟩
  | cons x l' =>
    have hK : Val.dropR v (x :: l') o = if cmp x v = 0 then .ok (l', o) else .bad 13 := rfl
    rw [hK]
    have hl1 : 0 < les.length := by rw [hll]; simp
    have HX : Hid (VR (fragE w (some gr :: ov.ownBlock :: Fx)) x (les[0]'hl1)) := hr.lr.at (i := 0) (by simp) hl1
    have HC := Lib.hid (fun (wx : World) (hle : FLe (fragE w (some gr :: ov.ownBlock :: Fx)) (frag wx)) => same_any x v _ vc wx (HX.out.mono hle) (hv.mono hle))
    have HLx := Lib.hid HX.out.len
    have hx0 : ∀ (h : 0 < (les.take 1).length), (les.take 1)[0]'h = les[0]'hl1 := fun h => by simp
    clear hr he hs7 hv hK
    generalize les[0]'hl1 = xc' at *
    by_cases hc : cmp x v = 0
    all_goals
      first | rw [if_pos hc] | rw [if_neg hc]
      first | rw [decide_eq_true hc] at HC | rw [decide_eq_false hc] at HC
      have Hc := Lib.hid hc; clear hc
      go_enter Tryd.func68, Tryd.ntmps68
      go_wp2_with (first
        | (refine wpList_box_lay rfl 55 _ rfl _ rfl ?_; (intro w0 g0 hg0 hB0 hb0)))
      refine (HN.out _ hb0).mono ?_
      rintro e w1 ⟨hg1, hs1, hx⟩
      rw [if_neg (by omega)] at hx
      obtain ⟨rfl, hB1⟩ := hx
      have H1 := Lib.hid (HR.out _ hb0)
      have Hb1 : Hid (Below gr w w1) := Below.grown (hb0.mono (Nat.le_of_lt Hlt.out)) hg1 (Nat.le_trans (Nat.le_of_lt Hlt.out) hb0.size) (fun _ e => by cases e; exact Nat.le_refl _)
      have hle1 : FLe (fragE w0 (some gr :: ov.ownBlock :: Fx)) (fragE w1 (some gr :: ov.ownBlock :: Fx)) := grownE hg1 (.inr (by simp)) (fun _ h => .inl h)
      have Hle : Hid (FLe (fragE w (some gr :: ov.ownBlock :: Fx)) (fragE w1 (some gr :: ov.ownBlock :: Fx))) := (belowE hb0 (fun _ h => .inl h)).trans hle1
      have hF := ((hle7.mono Hle.out).take (k := 1) (by omega)).mono (fragE_le _ _)
      obtain ⟨b1, o1, hb1, hidx, hr1⟩ := FlatC.at hF (by decide) (i := 0) (by rw [List.length_take]; omega) Tryd.underlying24 sizeVs
      rw [hx0] at hr1
      have hr1 : w1.rangeAt b1 o1 xc' := hr1
      rw [show ((0 : Nat) : Int) = 0 from rfl] at hidx
      have q1 := HS.out w1 _ (hB0.grown hg1 (fun e => by cases e; have := Hlt.out; omega))
      have Hown : Hid (w1.ownsRow (gr + 1) 27 7 ov o.length oes.flatten) := H1.out.own.kept hg1 (.inr (fun e => H1.out.own_ne e.symm))
      have HB1 := Lib.hid hB1
      have Hg1 := Lib.hid hg1
      clear hB1 hs1 hg1 hle1 hF hB0
      go_wp2_with fail
      refine wp_region_still_tail 8 (by kernel_rfl) (by kernel_rfl) ?_
      simp only [List.take_succ_cons, List.take_zero, List.drop_succ_cons, List.drop_zero]
      iterate 5 still_step
      refine wpStill_load_seg rfl 27 _ rfl b1 o1 rfl xc' _ hr1 Tryd.underlying27 rfl (infoV.trans (congrArg some HLx.out.symm)) ?_
      still_step
      refine wpStill_load_seg rfl 27 _ rfl g0 2 rfl vc _ q1 Tryd.underlying27 rfl (infoV.trans (congrArg some HLv.out.symm)) ?_
      refine wpStill_nil ?_
      change wpList _ _ _ _ _ w1.drew
      go_wp2_with fail
      refine (HC.out w1.drew (Hle.out.trans (fragE_le w1 _))).mono ?_
      rintro e w2 ⟨rfl, hb2⟩
      have Hb12 : Hid (Below w1.heap.size w1 w2) := (Below.refl _ _).drew.trans hb2
      have Hb2 : Hid (Below gr w w2) := Hb1.out.trans (Hb12.out.mono (Nat.le_of_lt HB1.out.lt))
      have hE := HE.out _ Hb2.out
      clear hb2
      go_wp2_with fail
      go_ret
      first
      | exact ⟨Hb2.out, rfl⟩
      | (refine ⟨Hb2.out, rfl, ?_⟩
         have hR : RowAt Fx w1 gr (partAt av cap 1 7) (les.length - 1) (cap - 1) ov l' o (les.drop 1) oes :=
           ⟨HB1.out, (hle7.mono Hle.out).drop (by omega), ((H1.out.lr.mono (grownE Hg1.out (.inr (by simp)) (fun _ h => .inl h))).part 1).2, Hown.out, H1.out.or.mono (grownE Hg1.out (.inr (by simp)) (fun _ h => .inl h))⟩
         exact ⟨_, _, _, _, _, _, hR.keep Hb12.out⟩)

end Go.Proofs.YtkldcjlkeblggaaDoor
