/- The rower of apply: next, keep, drop, put, change, walked. The rower of apply. -/
import Derived.Test.YtebekgdjknenlaaGreatDoorGpAU
import Derived.Deep.DeepCutAuto
set_option maxRecDepth 100000
set_option maxHeartbeats 4000000
set_option linter.unusedVariables false
set_option linter.unusedSimpArgs false
namespace Go.Proofs.YtebekgdjknenlaaGreatDoor
open Go.RowKit
open Val (V E cmp right eright esm v0 Res ado get find withV putV)
variable {Fx : List (Option Nat)}
theorem sizeVs (w : World) : (Go.sizeOf (Tryz.prog.elem 24)).run Tryz.prog w = .ok 7 w := by kernel_rfl
theorem info1s : (Tryz.prog.info? 24).map (·.size) = some 1 := by kernel_rfl
structure RowAt (Fx : List (Option Nat)) (w : World) (gr : Nat) (av : Option Addr) (n cap : Nat) (ov : Value) (l o : List V) (les oes : List (List Value)) : Prop where
 blk : Blk w gr [.slice av n cap, ov]
 left : FlatC 7 (fragE w (some gr :: ov.ownBlock :: Fx)) (.slice av n cap) les
 lr : LsR (fragE w (some gr :: ov.ownBlock :: Fx)) l les
 own : w.ownsRow (gr + 1) 27 7 ov o.length oes.flatten
 or : LsR (fragE w (some gr :: ov.ownBlock :: Fx)) o oes
def NextPost (er : Errs) (w : World) (gr : Nat) (av : Option Addr) (n cap : Nat) (ov : Value) (k : Nat) (e : Ending) (w' : World) : Prop :=
 w.grownBy w' (some gr) ∧ w'.heap.size = w.heap.size ∧ (if n < k then e = .returned (.tuple #[.slice none 0 0, er.c]) ∧ Blk w' gr [.slice av n cap, ov] else e = .returned (.tuple #[.slice av k cap, .nilIface]) ∧ Blk w' gr [.slice (partAt av cap k 7) (n - k) (cap - k), ov])
theorem next_any (er : Errs) (w : World) (he : ErrsAt er w) (gr : Nat) (av : Option Addr) (n cap k : Nat) (ov : Value) (hb : Blk w gr [.slice av n cap, ov]) (hn : n ≤ cap) (hc : cap ≤ maxLen) (h0 : av = none → cap = 0) (hk : k ≤ 9223372036854775807) :
  Calls Tryz.prog 93 #[.pointer (some ⟨gr, 0, none⟩), .int .i64 (k : Nat)] w (NextPost er w gr av n cap ov k) := by
 unfold maxLen at hc
 have q0 := hb.cell (o := 0) rfl
 have hE := he.c
 have HB := Yq hb
 by_cases hlt : n < k
 ·have g1 : decide ((n : Int) < (k : Int)) = true := decide_eq_true (by omega)
  have g2 : decide (n < k) = true := decide_eq_true hlt
  have Hp : Hid (NextPost er w gr av n cap ov k = fun e w' => w.grownBy w' (some gr) ∧ w'.heap.size = w.heap.size ∧ e = .returned (.tuple #[.slice none 0 0, er.c]) ∧ Blk w' gr [.slice av n cap, ov]) := by
   show _ = _
   funext e w'; unfold NextPost; rw [if_pos hlt]
  rw [Hp.out]
  go_enter Tryz.func93, Tryz.ntmps93
  go_wp2_with fail
  go_quiet (fail)
  all_goals
   go_wp2_with fail
   go_ret2
   exact ⟨⟨rfl, rfl, rfl, Nat.le_refl _, fun _ _ _ => rfl⟩, rfl, rfl, HB.out⟩
 ·have g1 : decide ((n : Int) < (k : Int)) = false := decide_eq_false (by omega)
  have g2 : decide (n < k) = false := decide_eq_false hlt
  have Hp : Hid (NextPost er w gr av n cap ov k = fun e w' => w.grownBy w' (some gr) ∧ w'.heap.size = w.heap.size ∧ e = .returned (.tuple #[.slice av k cap, .nilIface]) ∧ Blk w' gr [.slice (partAt av cap k 7) (n - k) (cap - k), ov]) := by
   show _ = _
   funext e w'; unfold NextPost; rw [if_neg hlt]
  rw [Hp.out]
  have e1 := run_to (P := Tryz.prog) (t := 24) (s := 7) (a := av) (n := n) (cap := cap) (i := k) Tryz.underlying24 sizeVs (by omega) h0
  have e2 := run_from (P := Tryz.prog) (t := 24) (s := 7) (a := av) (n := n) (cap := cap) (i := k) Tryz.underlying24 sizeVs (by omega) hn h0
  clear h0
  go_enter Tryz.func93, Tryz.ntmps93
  go_wp2_with (first
   | (refine wpList_store_blk1 rfl 24 _ _ rfl gr 0 _ rfl rfl _ HB.out info1s (show 0 + 1 ≤ 2 by decide) rfl ?_; (intro w2 hB2 hg2 hs2)))
  go_ret2
  exact ⟨hg2, hs2, rfl, hB2⟩
theorem LsR.append {h : Frag} : ∀ {xs ys : List V} {es gs : List (List Value)}, LsR h xs es → LsR h ys gs → LsR h (xs ++ ys) (es ++ gs)
 | [], ys, es, gs, h1, h2 => by rw [LsR] at h1; subst h1; exact h2
 | x :: r, ys, es, gs, h1, h2 => by
  rw [LsR] at h1
  obtain ⟨xc, er, rfl, h3, h4⟩ := h1
  simp only [List.cons_append]; rw [LsR]
  exact ⟨xc, _, rfl, h3, h4.append h2⟩
theorem LsR.part {h : Frag} : ∀ {xs : List V} {es : List (List Value)} (k : Nat), LsR h xs es → LsR h (xs.take k) (es.take k) ∧ LsR h (xs.drop k) (es.drop k)
 | xs, es, 0, h1 => by simp only [List.take_zero, List.drop_zero]; exact ⟨by rw [LsR], h1⟩
 | [], es, k + 1, h1 => by rw [LsR] at h1; subst h1; simp only [List.take_nil, List.drop_nil]; exact ⟨by rw [LsR], by rw [LsR]⟩
 | x :: r, es, k + 1, h1 => by
  rw [LsR] at h1
  obtain ⟨xc, er, rfl, h3, h4⟩ := h1
  have := h4.part k
  simp only [List.take_succ_cons, List.drop_succ_cons]
  refine ⟨?_, this.2⟩
  rw [LsR]; exact ⟨xc, _, rfl, h3, this.1⟩
theorem T_val : SliceT Tryz.prog 24 27 (.agg zV.toArray) 7 120 := ⟨Tryz.underlying24, by kernel_rfl, rfl, by decide, by decide⟩
theorem RowAt.keep {w w' : World} {gr n cap : Nat} {av : Option Addr} {ov : Value} {l o : List V} {les oes : List (List Value)} (h : RowAt Fx w gr av n cap ov l o les oes) (hb : Below w.heap.size w w') : RowAt Fx w' gr av n cap ov l o les oes := by
 have hle : FLe (fragE w (some gr :: ov.ownBlock :: Fx)) (fragE w' (some gr :: ov.ownBlock :: Fx)) := belowE hb (fun _ h => .inl h)
 exact ⟨h.blk.below hb h.blk.lt, h.left.mono hle, h.lr.mono hle, owns_below h.own hb, h.or.mono hle⟩
theorem RowAt.own_ne {w : World} {gr n cap : Nat} {av : Option Addr} {ov : Value} {l o : List V} {les oes : List (List Value)} (h : RowAt Fx w gr av n cap ov l o les oes) : some gr ≠ ov.ownBlock := fun e => by
 have := (h.own.lt gr e.symm).1; omega
theorem owns_one {w : World} {base : Nat} {e : TypeId} {size n : Nat} {v : Value} {xs : List Value} (h : w.ownsRow base e size v n xs) : v.oneCell' = true := by
 rcases h.2 with ⟨rfl, _⟩ | ⟨g, cap, cur, rfl, _⟩ <;> rfl
theorem FlatC.row {s : Nat} {h : Frag} {a : Option Addr} {n cap : Nat} {es : List (List Value)} (hl : FlatC s h (.slice a n cap) es) : HRow h a es.flatten := by
 obtain ⟨a', cap', e, _, _, _, hrow, _⟩ := hl
 simp only [Value.slice.injEq] at e
 obtain ⟨rfl, _, rfl⟩ := e
 exact hrow
def StepPost (er : Errs) (Fx : List (Option Nat)) (w : World) (gr : Nat) (r : Res (List V × List V)) (e : Ending) (w' : World) : Prop :=
 Below gr w w' ∧ match r with
 | .bad b => e = .returned (er.of b)
 | .ok (l', o') => e = .returned .nilIface ∧ ∃ av n cap ov les oes, RowAt Fx w' gr av n cap ov l' o' les oes
theorem keep_any (er : Errs) (w : World) (he : ErrsAt er w) (gr : Nat) (av : Option Addr) (n cap : Nat) (ov : Value) (l o : List V) (les oes : List (List Value)) (hr : RowAt Fx w gr av n cap ov l o les oes) (k : Int) (c : Nat) (yc : List Value) (hc : c ≤ 9223372036854775807) (hlen : l.length + o.length ≤ 1000000000) :
  Calls Tryz.prog 84 #[.pointer (some ⟨gr, 0, none⟩), .agg (Value.int .i64 k :: .int .i64 (c : Nat) :: yc).toArray] w (StepPost er Fx w gr (Val.keepR c l o)) := by
 have hll := hr.lr.len
 obtain ⟨a', cap', e, h1, h2, h0, _, hs7⟩ := hr.left
 cases e
 have HR := Yq (fun (wx : World) (hb : Below w.heap.size w wx) => hr.keep hb)
 have HS := Yq (fun (w2 : World) (g : Nat) (hB : Blk w2 g (.int .i64 k :: .int .i64 (c : Nat) :: yc)) => hB.cell (o := 1) rfl)
 have HN := Yq (fun (wx : World) (hb : Below w.heap.size w wx) => next_any er wx (he.keep hb) gr av les.length cap c ov ((HR.out wx hb).blk) h1 h2 h0 hc)
 have Hlt := Yq hr.blk.lt
 have Hll := Yq hll
 clear hr he hs7 hll
 have Hpost : Hid (l.length = les.length) := Hll.out.symm
 by_cases hlt : les.length < c
 ·have hK : Val.keepR c l o = .bad 13 := if_pos (by rw [Hpost.out]; exact hlt)
  rw [hK]
  clear hK
  go_enter Tryz.func84, Tryz.ntmps84
  go_wp2_with (first
   | (refine wpList_box_lay rfl 87 _ rfl _ rfl ?_; (intro w0 g0 hg0 hB0 hb0; have q1 := HS.out w0 g0 hB0)))
  refine (HN.out _ hb0).mono ?_
  rintro e w1 ⟨hg1, hs1, hx⟩
  rw [if_pos hlt] at hx
  obtain ⟨rfl, hB1⟩ := hx
  have H1 := Yq (HR.out _ hb0)
  have Hown : Hid (w1.ownsRow (gr + 1) 27 7 ov o.length oes.flatten) := H1.out.own.kept hg1 (.inr (fun e => H1.out.own_ne e.symm))
  have Hb1 : Hid (Below gr w w1) := Below.grown (hb0.mono (Nat.le_of_lt Hlt.out)) hg1 (Nat.le_trans (Nat.le_of_lt Hlt.out) hb0.size) (fun _ e => by cases e; exact Nat.le_refl _)
  have q2 := hB1.cell (o := 1) rfl
  have HB1 := Yq hB1
  have hgs := Yq (Nat.le_of_lt hB1.lt)
  clear hB1 hg1 hs1
  go_wp2_with (first
   | (at_builtin; refine wpList_append_opt T_val (v := ov) (ad := none) (m := 0) (c := 0) (news := []) rfl _ _ rfl rfl Hown.out rfl (fun _ => rfl) (Nat.le_refl _) (.inl rfl) rfl (by simp) (by omega) (Nat.succ_le_of_lt HB1.out.lt) ?_; (intro v2 w2 ho2 hg2 hat; have hB2 := HB1.out.grown hg2 H1.out.own_ne; have hb2 := Below.grown Hb1.out hg2 hgs.out (fun k e => by have := (Hown.out.lt k e).1; omega)))
   | (refine wpList_store_blk1 rfl 24 _ _ rfl gr 1 _ rfl rfl [.slice av les.length cap, ov] (by assumption) info1s (show 1 + 1 ≤ 2 by decide) ?_ ?_; (· exact owns_one ho2); (intro w3 hB3 hg3 hs3)))
  go_ret
  exact ⟨Below.grown hb2 hg3 (Nat.le_trans hgs.out hg2.size) (fun _ e => by cases e; exact Nat.le_refl _), rfl⟩
 ·have hK : Val.keepR c l o = .ok (l.drop c, o ++ l.take c) := if_neg (by rw [Hpost.out]; exact hlt)
  rw [hK]
  clear hK
  go_enter Tryz.func84, Tryz.ntmps84
  go_wp2_with (first
   | (refine wpList_box_lay rfl 87 _ rfl _ rfl ?_; (intro w0 g0 hg0 hB0 hb0; have q1 := HS.out w0 g0 hB0)))
  refine (HN.out _ hb0).mono ?_
  rintro e w1 ⟨hg1, hs1, hx⟩
  rw [if_neg hlt] at hx
  obtain ⟨rfl, hB1⟩ := hx
  have H1 := Yq (HR.out _ hb0)
  have Hown : Hid (w1.ownsRow (gr + 1) 27 7 ov o.length oes.flatten) := H1.out.own.kept hg1 (.inr (fun e => H1.out.own_ne e.symm))
  have Hb1 : Hid (Below gr w w1) := Below.grown (hb0.mono (Nat.le_of_lt Hlt.out)) hg1 (Nat.le_trans (Nat.le_of_lt Hlt.out) hb0.size) (fun _ e => by cases e; exact Nat.le_refl _)
  have hle1 : FLe (fragE w0 (some gr :: ov.ownBlock :: Fx)) (fragE w1 (some gr :: ov.ownBlock :: Fx)) := grownE hg1 (.inr (by simp)) (fun _ h => .inl h)
  have Hle1 := Yq hle1
  have Hrow := Yq ((((H1.out.left.mono hle1).take (k := c) (by omega)).row).mono (fragE_le _ _))
  have hts : ∀ e ∈ les.take c, e.length = 7 := fun e he => H1.out.left.sizes e (List.mem_of_mem_take he)
  have htl : (les.take c).length = c := by rw [List.length_take]; omega
  have Hfl : Hid ((les.take c).flatten.length = c * 7) := by
   show _ = _
   rw [flatten_len hts, htl]
  have Hone := Yq (oneF (es := les.take c) (fun e => one7) (fun e he => H1.out.lr.shapes e (List.mem_of_mem_take he)))
  have hc2 : l.length = les.length := Hpost.out
  have hN : (o.length + c) * 120 ≤ 140737488355328 := by omega
  have hcc : c ≤ cap := by omega
  have q2 := hB1.cell (o := 1) rfl
  have HB1 := Yq hB1
  have hgs := Yq (Nat.le_of_lt hB1.lt)
  have Htl := Yq htl
  clear hB1 hs1 hle1 hts htl hc2
  have Hg1 := Yq hg1; clear hg1
  go_wp2_with (first
   | (at_builtin; refine wpList_append_opt T_val (v := ov) (ad := av) (m := c) (c := cap) (news := (les.take c).flatten) rfl _ _ rfl rfl Hown.out rfl h0 hcc Hrow.out Hfl.out Hone.out hN (Nat.succ_le_of_lt HB1.out.lt) ?_; (intro v2 w2 ho2 hg2 hat; have hB2 := HB1.out.grown hg2 H1.out.own_ne; have hb2 := Below.grown Hb1.out hg2 hgs.out (fun k e => by have := (Hown.out.lt k e).1; omega)))
   | (refine wpList_store_blk1 rfl 24 _ _ rfl gr 1 _ rfl rfl _ hB2 info1s (show 1 + 1 ≤ 2 by decide) ?_ ?_; (· exact owns_one ho2); (intro w3 hB3 hg3 hs3)))
  go_ret
  have hle2 : FLe (fragE w1 (some gr :: ov.ownBlock :: Fx)) (fragE w2 (some gr :: v2.ownBlock :: Fx)) := grownE hg2 (.inr (by simp)) (fun k hk => by
   simp only [List.mem_cons] at hk ⊢
   rcases hk with hk | hk | hk
   ·exact .inl (.inl hk)
   ·rcases hat with h | h
    ·left; right; left; rw [hk, h]
    ·right; rw [h] at hk; cases hk; exact Nat.le_refl _
   ·exact .inl (.inr (.inr hk)))
  have hle3 : FLe (fragE w2 (some gr :: v2.ownBlock :: Fx)) (fragE w3 (some gr :: v2.ownBlock :: Fx)) := grownE hg3 (.inr (by simp)) (fun _ h => .inl h)
  have hle := Hle1.out.trans (hle2.trans hle3)
  have hne : some gr ≠ v2.ownBlock := fun e => by have := (ho2.lt gr e.symm).1; omega
  refine ⟨Below.grown hb2 hg3 (Nat.le_trans hgs.out hg2.size) (fun _ e => by cases e; exact Nat.le_refl _), rfl, _, _, _, _, _, _, ⟨hB3, (H1.out.left.mono hle).drop (by omega), ((H1.out.lr.mono hle).part c).2, ?_, (H1.out.or.mono hle).append ((H1.out.lr.mono hle).part c).1⟩⟩
  have ho3 := ho2.kept hg3 (.inr (fun e => hne e.symm))
  rw [List.flatten_append, List.length_append, List.length_take, Nat.min_eq_left (by rw [Hpost.out]; omega)]
  exact ho3
theorem drop_any (er : Errs) (w : World) (he : ErrsAt er w) (gr : Nat) (hG : ErrsLt gr) (av : Option Addr) (n cap : Nat) (ov : Value) (l o : List V) (les oes : List (List Value)) (hr : RowAt Fx w gr av n cap ov l o les oes) (k c : Int) (v : V) (vc xc : List Value) (hv : VR (fragE w (some gr :: ov.ownBlock :: Fx)) v vc) :
  Calls Tryz.prog 85 #[.pointer (some ⟨gr, 0, none⟩), .agg (Value.int .i64 k :: .int .i64 c :: (vc ++ xc)).toArray] w (StepPost er Fx w gr (Val.dropR v l o)) := by
 have hll := hr.lr.len
 have hle7 := hr.left
 obtain ⟨a', cap', e, h1, h2, h0, _, hs7⟩ := hr.left
 cases e
 have HR := Yq (fun (wx : World) (hb : Below w.heap.size w wx) => hr.keep hb)
 have HS := Yq (fun (w2 : World) (g : Nat) (hB : Blk w2 g (.int .i64 k :: .int .i64 c :: (vc ++ xc))) => hB.range (p := [.int .i64 k, .int .i64 c]) (q := vc) (r := xc) rfl rfl)
 have HN := Yq (fun (wx : World) (hb : Below w.heap.size w wx) => next_any er wx (he.keep hb) gr av les.length cap 1 ov ((HR.out wx hb).blk) h1 h2 h0 (by decide))
 have HE := Yq (fun (wx : World) (hb : Below gr w wx) => (he.below hG hb).c)
 have Hlt := Yq hr.blk.lt
 have HLv := Yq hv.len
 cases l with
 | nil =>
  have hl0 : les.length = 0 := by rw [hll]; rfl
  have hK : Val.dropR v [] o = .bad 13 := rfl
  rw [hK]
  clear hr he h0 hs7 hll hv hK hle7
  go_enter Tryz.func85, Tryz.ntmps85
  go_wp2_with (first
   | (refine wpList_box_lay rfl 87 _ rfl _ rfl ?_; (intro w0 g0 hg0 hB0 hb0; have q1 := HS.out w0 g0 hB0)))
  refine (HN.out _ hb0).mono ?_
  rintro e w1 ⟨hg1, hs1, hx⟩
  rw [if_pos (by omega)] at hx
  obtain ⟨rfl, hB1⟩ := hx
  have Hb1 : Hid (Below gr w w1) := Below.grown (hb0.mono (Nat.le_of_lt Hlt.out)) hg1 (Nat.le_trans (Nat.le_of_lt Hlt.out) hb0.size) (fun _ e => by cases e; exact Nat.le_refl _)
  clear hl0
  go_wp2_with fail
  go_quiet (fail)
  all_goals
   go_wp2_with fail
   go_ret
   exact ⟨Below.drewN Hb1.out _, rfl⟩
 | cons x l' =>
  have hK : Val.dropR v (x :: l') o = if cmp x v = 0 then .ok (l', o) else .bad 13 := rfl
  rw [hK]
  have hl1 : 0 < les.length := by rw [hll]; simp
  have HX : Hid (VR (fragE w (some gr :: ov.ownBlock :: Fx)) x (les[0]'hl1)) := hr.lr.at (i := 0) (by simp) hl1
  have HC := Yq (fun (wx : World) (hle : FLe (fragE w (some gr :: ov.ownBlock :: Fx)) (frag wx)) => same_any x v _ vc wx (HX.out.mono hle) (hv.mono hle))
  have HLx := Yq HX.out.len
  have hx0 : ∀ (h : 0 < (les.take 1).length), (les.take 1)[0]'h = les[0]'hl1 := fun h => by simp
  clear hr he hs7 hv hK
  generalize les[0]'hl1 = xc' at *
  by_cases hc : cmp x v = 0
  all_goals
   first | rw [if_pos hc] | rw [if_neg hc]
   first | rw [decide_eq_true hc] at HC | rw [decide_eq_false hc] at HC
   have Hc := Yq hc; clear hc
   go_enter Tryz.func85, Tryz.ntmps85
   go_wp2_with (first
    | (refine wpList_box_lay rfl 87 _ rfl _ rfl ?_; (intro w0 g0 hg0 hB0 hb0)))
   refine (HN.out _ hb0).mono ?_
   rintro e w1 ⟨hg1, hs1, hx⟩
   rw [if_neg (by omega)] at hx
   obtain ⟨rfl, hB1⟩ := hx
   have H1 := Yq (HR.out _ hb0)
   have Hb1 : Hid (Below gr w w1) := Below.grown (hb0.mono (Nat.le_of_lt Hlt.out)) hg1 (Nat.le_trans (Nat.le_of_lt Hlt.out) hb0.size) (fun _ e => by cases e; exact Nat.le_refl _)
   have hle1 : FLe (fragE w0 (some gr :: ov.ownBlock :: Fx)) (fragE w1 (some gr :: ov.ownBlock :: Fx)) := grownE hg1 (.inr (by simp)) (fun _ h => .inl h)
   have Hle : Hid (FLe (fragE w (some gr :: ov.ownBlock :: Fx)) (fragE w1 (some gr :: ov.ownBlock :: Fx))) := (belowE hb0 (fun _ h => .inl h)).trans hle1
   have hF := ((hle7.mono Hle.out).take (k := 1) (by omega)).mono (fragE_le _ _)
   obtain ⟨b1, o1, hb1, hidx, hr1⟩ := FlatC.at hF (by decide) (i := 0) (by rw [List.length_take]; omega) Tryz.underlying24 sizeVs
   rw [hx0] at hr1
   have hr1 : w1.rangeAt b1 o1 xc' := hr1
   rw [show ((0 : Nat) : Int) = 0 from rfl] at hidx
   have q1 := HS.out w1 _ (hB0.grown hg1 (fun e => by cases e; have := Hlt.out; omega))
   have Hown : Hid (w1.ownsRow (gr + 1) 27 7 ov o.length oes.flatten) := H1.out.own.kept hg1 (.inr (fun e => H1.out.own_ne e.symm))
   have HB1 := Yq hB1
   have Hg1 := Yq hg1
   clear hB1 hs1 hg1 hle1 hF hB0
   go_wp2_with fail
   refine wp_region_still_tail 8 (by kernel_rfl) (by kernel_rfl) ?_
   simp only [List.take_succ_cons, List.take_zero, List.drop_succ_cons, List.drop_zero]
   iterate 5 still_step
   refine wpStill_load_seg rfl 27 _ rfl b1 o1 rfl xc' _ hr1 Tryz.underlying27 rfl (iC infoV HLx) ?_
   still_step
   refine wpStill_load_seg rfl 27 _ rfl g0 2 rfl vc _ q1 Tryz.underlying27 rfl (iC infoV HLv) ?_
   refine wpStill_nil ?_
   change wpList _ _ _ _ _ w1.drew
   go_wp2_with fail
   refine (HC.out w1.drew (Hle.out.trans (fragE_le w1 _))).mono ?_
   rintro e w2 ⟨rfl, hb2⟩
   have Hb12 : Hid (Below w1.heap.size w1 w2) := (Below.refl _ _).drew.trans hb2
   have Hb2 : Hid (Below gr w w2) := Hb1.out.trans (Hb12.out.mono (Nat.le_of_lt HB1.out.lt))
   have hE := HE.out _ Hb2.out
   clear hb2
   go_wp2_with fail
   go_ret
   first
   | exact ⟨Hb2.out, rfl⟩
   | (refine ⟨Hb2.out, rfl, ?_⟩
      have hR : RowAt Fx w1 gr (partAt av cap 1 7) (les.length - 1) (cap - 1) ov l' o (les.drop 1) oes :=
        ⟨HB1.out, (hle7.mono Hle.out).drop (by omega), ((H1.out.lr.mono (grownE Hg1.out (.inr (by simp)) (fun _ h => .inl h))).part 1).2, Hown.out, H1.out.or.mono (grownE Hg1.out (.inr (by simp)) (fun _ h => .inl h))⟩
      exact ⟨_, _, _, _, _, _, hR.keep Hb12.out⟩)
end Go.Proofs.YtebekgdjknenlaaGreatDoor
namespace Go.Proofs.YtebekgdjknenlaaGreatDoor
open Go.RowKit
open Val (V E cmp right eright esm v0 Res ado get find withV putV)
variable {Fx : List (Option Nat)}
theorem own_neq {w : World} {gr g n c : Nat} {e : TypeId} {s : Nat} {xs : List Value} (h : w.ownsRow (gr + 1) e s (.slice (some ⟨g, 0, none⟩) n c) n xs) : ¬ g = gr := fun e => by
 have := (h.lt g rfl).1; omega
theorem own_neq' {w : World} {gr g n c : Nat} {e : TypeId} {s : Nat} {xs : List Value} (h : w.ownsRow (gr + 1) e s (.slice (some ⟨g, 0, none⟩) n c) n xs) : ¬ gr = g := fun e => own_neq h e.symm
theorem own_elem {w : World} {base g n c : Nat} {xs : List Value} (h : w.ownsRow base 27 7 (.slice (some ⟨g, 0, none⟩) (n + 1) c) (n + 1) (xs ++ zV)) (hx : xs.length = n * 7) :
  (w.cell? ⟨g, n * 7, none⟩ = some (.int .i64 0) ∧ w.cell? ⟨g, n * 7 + 1, none⟩ = some (.int .u64 0) ∧ w.cell? ⟨g, n * 7 + 2, none⟩ = some (.string ⟨#[]⟩) ∧ w.cell? ⟨g, n * 7 + 3, none⟩ = some (.slice none 0 0) ∧ w.cell? ⟨g, n * 7 + 4, none⟩ = some (.string ⟨#[]⟩) ∧ w.cell? ⟨g, n * 7 + 5, none⟩ = some (.slice none 0 0) ∧ w.cell? ⟨g, n * 7 + 6, none⟩ = some (.slice none 0 0)) ∧
  (w.frozen? ⟨g, n * 7, none⟩ = false ∧ w.frozen? ⟨g, n * 7 + 1, none⟩ = false ∧ w.frozen? ⟨g, n * 7 + 2, none⟩ = false ∧ w.frozen? ⟨g, n * 7 + 3, none⟩ = false ∧ w.frozen? ⟨g, n * 7 + 4, none⟩ = false ∧ w.frozen? ⟨g, n * 7 + 5, none⟩ = false ∧ w.frozen? ⟨g, n * 7 + 6, none⟩ = false) := by
 have hc : ∀ j u, zV[j]? = some u → w.cell? ⟨g, n * 7 + j, none⟩ = some u := fun j u hu => by
  have := h.cells (g := g) rfl (n * 7 + j) u (by rw [List.getElem?_append_right (by omega), hx, Nat.add_sub_cancel_left]; exact hu)
  rwa [Addr.add_none, Nat.zero_add] at this
 have hf : ∀ j, w.frozen? ⟨g, j, none⟩ = false := fun j => by
  rcases h.2 with ⟨hn, _⟩ | ⟨g', cap, cur, hv, hb, hg, _⟩
  ·cases hn
  ·cases hv
   exact frozen_of_row w g j cur _ hg
 exact ⟨⟨hc 0 _ rfl, hc 1 _ rfl, hc 2 _ rfl, hc 3 _ rfl, hc 4 _ rfl, hc 5 _ rfl, hc 6 _ rfl⟩, ⟨hf _, hf _, hf _, hf _, hf _, hf _, hf _⟩⟩
theorem own_setC {w : World} {base g n c i s : Nat} {e : TypeId} {xs : List Value} {u : Value} (h : w.ownsRow base e s (.slice (some ⟨g, 0, none⟩) n c) n xs) : (w.setCell ⟨g, i, none⟩ u).ownsRow base e s (.slice (some ⟨g, 0, none⟩) n c) n (xs.set i u) := by
 refine ⟨by rw [List.length_set]; exact h.1, ?_⟩
 rcases h.2 with ⟨hn, _⟩ | ⟨g', cap, cur, hv, hb, hg, hnc, hcm, hcs, htake⟩
 ·cases hn
 ·cases hv
  refine .inr ⟨g, c, cur.setIfInBounds i u, rfl, hb, heap_setCell_same w g i cur e u hg, hnc, hcm, by simpa using hcs, ?_⟩
  rw [Array.toList_setIfInBounds, List.take_set, htake]
theorem own_other {w : World} {base g n c s : Nat} {a : Addr} {e : TypeId} {xs : List Value} {u : Value} (h : w.ownsRow base e s (.slice (some ⟨g, 0, none⟩) n c) n xs) (hne : g ≠ a.block) : (w.setCell a u).ownsRow base e s (.slice (some ⟨g, 0, none⟩) n c) n xs :=
 h.kept (grown_setCell w a u) (.inr (fun e => by simp [Value.ownBlock] at e; exact hne e))
def elset (w : World) (g k : Nat) (u0 u1 u2 u3 u4 u5 u6 : Value) : World :=
 ((((((w.setCell ⟨g, k, none⟩ u0).setCell ⟨g, k + 1, none⟩ u1).setCell ⟨g, k + 2, none⟩ u2).setCell ⟨g, k + 3, none⟩ u3).setCell ⟨g, k + 4, none⟩ u4).setCell ⟨g, k + 5, none⟩ u5).setCell ⟨g, k + 6, none⟩ u6
theorem set_elem {xs : List Value} {a0 a1 a2 a3 a4 a5 a6 u0 u1 u2 u3 u4 u5 u6 : Value} {k : Nat} (h : xs.length = k) :
  (((((((xs ++ [a0, a1, a2, a3, a4, a5, a6]).set k u0).set (k + 1) u1).set (k + 2) u2).set (k + 3) u3).set (k + 4) u4).set (k + 5) u5).set (k + 6) u6 = xs ++ [u0, u1, u2, u3, u4, u5, u6] := by
 subst h
 simp [List.set_append_right]
theorem elset_own {w : World} {base g n c : Nat} {xs : List Value} {u0 u1 u2 u3 u4 u5 u6 : Value} (h : w.ownsRow base 27 7 (.slice (some ⟨g, 0, none⟩) (n + 1) c) (n + 1) (xs ++ zV)) (hx : xs.length = n * 7) :
  (elset w g (n * 7) u0 u1 u2 u3 u4 u5 u6).ownsRow base 27 7 (.slice (some ⟨g, 0, none⟩) (n + 1) c) (n + 1) (xs ++ [u0, u1, u2, u3, u4, u5, u6]) := by
 have := own_setC (i := n * 7 + 6) (u := u6) (own_setC (i := n * 7 + 5) (u := u5) (own_setC (i := n * 7 + 4) (u := u4) (own_setC (i := n * 7 + 3) (u := u3) (own_setC (i := n * 7 + 2) (u := u2) (own_setC (i := n * 7 + 1) (u := u1) (own_setC (i := n * 7) (u := u0) h))))))
 unfold elset
 rwa [show zV = [.int .i64 0, .int .u64 0, .string ⟨#[]⟩, .slice none 0 0, .string ⟨#[]⟩, .slice none 0 0, .slice none 0 0] from rfl, set_elem hx] at this
theorem grown_trans {a b c : World} {X : Option Nat} (h1 : a.grownBy b X) (h2 : b.grownBy c X) : a.grownBy c X :=
 ⟨h2.os.trans h1.os, h2.tape.trans h1.tape, h2.output.trans h1.output, Nat.le_trans h1.size h2.size, fun k hk hne => (h2.block k (Nat.lt_of_lt_of_le hk h1.size) hne).trans (h1.block k hk hne)⟩
theorem elset_grown (w : World) (g k : Nat) (u0 u1 u2 u3 u4 u5 u6 : Value) : w.grownBy (elset w g k u0 u1 u2 u3 u4 u5 u6) (some g) := by
 unfold elset
 exact grown_trans (grown_trans (grown_trans (grown_trans (grown_trans (grown_trans (grown_setCell _ ⟨g, _, none⟩ _) (grown_setCell _ ⟨g, _, none⟩ _)) (grown_setCell _ ⟨g, _, none⟩ _)) (grown_setCell _ ⟨g, _, none⟩ _)) (grown_setCell _ ⟨g, _, none⟩ _)) (grown_setCell _ ⟨g, _, none⟩ _)) (grown_setCell _ ⟨g, _, none⟩ _)
theorem grown_trans' {a b : World} {o : Obj} {X : Option Nat} (h : ((a.alloc o).drew).grownBy b X) : a.grownBy b X :=
 grown_trans (World.grownBy_alloc a o X) ⟨h.os, h.tape, h.output, h.size, h.block⟩
theorem put_done {w w0 w2 : World} {gr n cap c2 c3 g2 : Nat} {av a2 : Option Addr} {l o : List V} {les oes : List (List Value)} {v : V} {u0 u1 u2 u3 u4 u5 u6 : Value} (hw : Below gr w w0) (H : RowAt Fx w0 gr av n cap (.slice a2 o.length c2) l o les oes)
  (hv : VR (fragE w0 (some gr :: (Value.slice a2 o.length c2).ownBlock :: Fx)) v [u0, u1, u2, u3, u4, u5, u6]) (hg : w0.grownBy w2 (Value.slice a2 o.length c2).ownBlock) (hat : (Value.slice a2 o.length c2).ownBlock = some g2 ∨ g2 = w0.heap.size + 1)
  (ho : w2.ownsRow (gr + 1) 27 7 (.slice (some ⟨g2, 0, none⟩) (o.length + 1) c3) (o.length + 1) (oes.flatten ++ zV)) (hx : oes.flatten.length = o.length * 7) (er : Errs) (F : World)
  (hF : F = ((elset w2 g2 (o.length * 7) u0 u1 u2 u3 u4 u5 u6).setCell ⟨gr, 1, none⟩ (.slice (some ⟨g2, 0, none⟩) (o.length + 1) c3)) ∨ F = (elset (w2.setCell ⟨gr, 1, none⟩ (.slice (some ⟨g2, 0, none⟩) (o.length + 1) c3)) g2 (o.length * 7) u0 u1 u2 u3 u4 u5 u6)) :
  StepPost er Fx w gr (.ok (l, o ++ [v])) (.returned .nilIface) F := by
 have hB2 : Blk w2 gr [.slice av n cap, .slice a2 o.length c2] := H.blk.grown hg H.own_ne
 have hne := own_neq ho
 have hne' := own_neq' ho
 have hgr := H.blk.lt
 have hle0 : FLe (fragE w0 (some gr :: (Value.slice a2 o.length c2).ownBlock :: Fx)) (fragE w2 (some gr :: some g2 :: Fx)) := grownE hg (.inr (by simp)) (fun k hk => by
  simp only [List.mem_cons] at hk ⊢
  rcases hk with hk | hk | hk
  ·exact .inl (.inl hk)
  ·rcases hat with h | h
   ·left; right; left; rw [hk, h]
   ·right; cases hk; omega
  ·exact .inl (.inr (.inr hk)))
 have hb2 : Below gr w w2 := Below.grown hw hg (Nat.le_of_lt hgr) (fun k e => by have := (H.own.lt k e).1; omega)
 have hz : gr ≤ w2.heap.size := Nat.le_trans (Nat.le_of_lt hgr) hg.size
 have main : Blk F gr [.slice av n cap, .slice (some ⟨g2, 0, none⟩) (o.length + 1) c3] ∧ F.ownsRow (gr + 1) 27 7 (.slice (some ⟨g2, 0, none⟩) (o.length + 1) c3) (o.length + 1) (oes.flatten ++ [u0, u1, u2, u3, u4, u5, u6]) ∧ FLe (fragE w2 (some gr :: some g2 :: Fx)) (fragE F (some gr :: some g2 :: Fx)) ∧ Below gr w2 F := by
  rcases hF with hF | hF
  ·have hO := elset_own (u0 := u0) (u1 := u1) (u2 := u2) (u3 := u3) (u4 := u4) (u5 := u5) (u6 := u6) ho hx
   have hG := elset_grown w2 g2 (o.length * 7) u0 u1 u2 u3 u4 u5 u6
   generalize elset w2 g2 (o.length * 7) u0 u1 u2 u3 u4 u5 u6 = W at *
   have hBW : Blk W gr [.slice av n cap, .slice a2 o.length c2] := hB2.grown hG (fun e => hne' (by simpa using e))
   have hS := grown_setCell W ⟨gr, 1, none⟩ (.slice (some ⟨g2, 0, none⟩) (o.length + 1) c3)
   have hBS : Blk (W.setCell ⟨gr, 1, none⟩ (.slice (some ⟨g2, 0, none⟩) (o.length + 1) c3)) gr [.slice av n cap, .slice (some ⟨g2, 0, none⟩) (o.length + 1) c3] := hBW.setC rfl
   have hOS : (W.setCell ⟨gr, 1, none⟩ (.slice (some ⟨g2, 0, none⟩) (o.length + 1) c3)).ownsRow (gr + 1) 27 7 (.slice (some ⟨g2, 0, none⟩) (o.length + 1) c3) (o.length + 1) (oes.flatten ++ [u0, u1, u2, u3, u4, u5, u6]) := own_other hO hne
   generalize W.setCell ⟨gr, 1, none⟩ (.slice (some ⟨g2, 0, none⟩) (o.length + 1) c3) = W2 at *
   rw [hF]
   have hL : FLe (fragE w2 (some gr :: some g2 :: Fx)) (fragE W2 (some gr :: some g2 :: Fx)) := (grownE hG (.inr (by simp)) (fun _ h => .inl h)).trans (grownE (E := (some gr :: some g2 :: Fx)) (E' := (some gr :: some g2 :: Fx)) hS (.inr (by simp)) (fun _ h => .inl h))
   refine ⟨hBS, hOS, hL, ?_⟩
   exact (Below.grown (Below.grown (Below.refl _ _) hG hz (fun k e => by cases e; have := (ho.lt g2 rfl).1; omega)) hS (Nat.le_trans hz hG.size) (fun k e => by cases e; exact Nat.le_refl _))
  ·have hS := grown_setCell w2 ⟨gr, 1, none⟩ (.slice (some ⟨g2, 0, none⟩) (o.length + 1) c3)
   have hBS : Blk (w2.setCell ⟨gr, 1, none⟩ (.slice (some ⟨g2, 0, none⟩) (o.length + 1) c3)) gr [.slice av n cap, .slice (some ⟨g2, 0, none⟩) (o.length + 1) c3] := hB2.setC rfl
   have hOS : (w2.setCell ⟨gr, 1, none⟩ (.slice (some ⟨g2, 0, none⟩) (o.length + 1) c3)).ownsRow (gr + 1) 27 7 (.slice (some ⟨g2, 0, none⟩) (o.length + 1) c3) (o.length + 1) (oes.flatten ++ zV) := own_other ho hne
   generalize w2.setCell ⟨gr, 1, none⟩ (.slice (some ⟨g2, 0, none⟩) (o.length + 1) c3) = W at *
   have hO := elset_own (u0 := u0) (u1 := u1) (u2 := u2) (u3 := u3) (u4 := u4) (u5 := u5) (u6 := u6) hOS hx
   have hG := elset_grown W g2 (o.length * 7) u0 u1 u2 u3 u4 u5 u6
   generalize elset W g2 (o.length * 7) u0 u1 u2 u3 u4 u5 u6 = W2 at *
   rw [hF]
   have hL : FLe (fragE w2 (some gr :: some g2 :: Fx)) (fragE W2 (some gr :: some g2 :: Fx)) := (grownE (E' := (some gr :: some g2 :: Fx)) hS (.inr (by simp)) (fun _ h => .inl h)).trans (grownE (E := (some gr :: some g2 :: Fx)) (E' := (some gr :: some g2 :: Fx)) hG (.inr (by simp)) (fun _ h => .inl h))
   have hB3 : Blk W2 gr [.slice av n cap, .slice (some ⟨g2, 0, none⟩) (o.length + 1) c3] := hBS.grown hG (fun e => hne' (by simpa using e))
   refine ⟨hB3, hO, hL, ?_⟩
   exact (Below.grown (Below.grown (Below.refl _ _) hS hz (fun k e => by cases e; exact Nat.le_refl _)) hG (Nat.le_trans hz hS.size) (fun k e => by cases e; have := (ho.lt g2 rfl).1; omega))
 obtain ⟨m1, m2, m3, m4⟩ := main
 have hle := hle0.trans m3
 refine ⟨hb2.trans m4, rfl, av, n, cap, .slice (some ⟨g2, 0, none⟩) (o.length + 1) c3, les, oes ++ [[u0, u1, u2, u3, u4, u5, u6]], m1, H.left.mono hle, H.lr.mono hle, ?_, ?_⟩
 ·rw [List.flatten_append, List.length_append, List.length_singleton]
  simpa using m2
 ·exact (H.or.mono hle).snoc (hv.mono hle)
theorem put_any' (er : Errs) (w : World) (gr : Nat) (av : Option Addr) (n cap : Nat) (ov : Value) (l o : List V) (les oes : List (List Value)) (hr : RowAt Fx w gr av n cap ov l o les oes) (k c : Int) (v : V) (vc xc : List Value) (hv : VR (fragE w (some gr :: ov.ownBlock :: Fx)) v vc) (hlen : o.length ≤ 1000000000) :
  Calls Tryz.prog 86 #[.pointer (some ⟨gr, 0, none⟩), .agg (Value.int .i64 k :: .int .i64 c :: (vc ++ xc)).toArray] w (StepPost er Fx w gr (.ok (l, o ++ [v]))) := by
 have HR := Yq (fun (wx : World) (hb : Below w.heap.size w wx) => hr.keep hb)
 have HS := Yq (fun (w2 : World) (g : Nat) (hB : Blk w2 g (.int .i64 k :: .int .i64 c :: (vc ++ xc))) => hB.range (p := [.int .i64 k, .int .i64 c]) (q := vc) (r := xc) rfl rfl)
 have Hlt := Yq hr.blk.lt
 have HV := Yq hv
 obtain ⟨a2, c2, eo, _⟩ := Row.of_owns hr.own
 subst eo
 obtain ⟨vk, vn, vt, vr, b1, m1, d1, b2, m2, d2, b3, m3, d3, rfl⟩ := hv.shape
 clear hr hv
 go_enter Tryz.func86, Tryz.ntmps86
 go_wp2_with (first
  | (refine wpList_box_lay rfl 87 _ rfl _ rfl ?_; (intro w0 g0 hg0 hB0 hb0)))
 have H1 := Yq (HR.out _ hb0)
 have hs := HS.out _ _ hB0
 have q0 : w0.cell? ⟨g0, 2, none⟩ = some (.int .i64 vk) := hs 0 _ rfl
 have q1 : w0.cell? ⟨g0, 3, none⟩ = some (.int .u64 vn) := hs 1 _ rfl
 have q2 : w0.cell? ⟨g0, 4, none⟩ = some (.string vt) := hs 2 _ rfl
 have q3 : w0.cell? ⟨g0, 5, none⟩ = some (.slice b1 m1 d1) := hs 3 _ rfl
 have q4 : w0.cell? ⟨g0, 6, none⟩ = some (.string vr) := hs 4 _ rfl
 have q5 : w0.cell? ⟨g0, 7, none⟩ = some (.slice b2 m2 d2) := hs 5 _ rfl
 have q6 : w0.cell? ⟨g0, 8, none⟩ = some (.slice b3 m3 d3) := hs 6 _ rfl
 have z1 := H1.out.blk.cell (o := 1) rfl
 have zf := H1.out.blk.frozen 1
 have hzg0 := hB0.lt
 have hzgr := H1.out.blk.lt
 clear hs hB0
 obtain ⟨i0, hi0, hi1, hi2, hi3⟩ := info_parts T_val.info
 have Hi := Yq (And.intro hi0 (And.intro hi1 (And.intro hi2 hi3)))
 have Hown := Yq H1.out.own
 have Hz : Hid ((o.length + 1) * 120 ≤ 140737488355328) := by show _ ≤ _; omega
 have Hm : Hid (o.length + 1 ≤ maxLen) := by show _ ≤ _; unfold maxLen; omega
 have Hgr : Hid (gr + 1 ≤ (w0.alloc (.cells zV.toArray 27)).heap.size) := by show _ ≤ _; simp; omega
 have Hne := Yq H1.out.own_ne
 have Hnew : Hid (∀ j u, zV[j]? = some u → (w0.alloc (.cells zV.toArray 27)).cell? ((⟨w0.heap.size, 0, none⟩ : Addr).add j) = some u) := World.news_of_block (heap_alloc_new w0 _)
 have Hxl : Hid (oes.flatten.length = o.length * 7) := by
  show _ = _
  have := H1.out.own.1; omega
 have HW := Yq (hb0.mono (Nat.le_of_lt Hlt.out))
 have HV0 := Yq (HV.out.mono (belowE hb0 (fun _ h => .inl h)))
 have Hzf : Hid (∀ w2, (w0.alloc (.cells zV.toArray 27)).grownBy w2 (Value.slice a2 o.length c2).ownBlock → w2.frozen? ⟨gr, 1, none⟩ = false ∧ w2.cell? ⟨gr, 1, none⟩ = some (.slice a2 o.length c2)) := fun w2 hg => by
  have hB := (H1.out.blk.alloc (.cells zV.toArray 27)).grown hg H1.out.own_ne
  exact ⟨hB.frozen 1, hB.cell rfl⟩
 have hl1 : (o.length : Int) < (o.length : Int) + 1 := by omega
 clear hi0 hi1 hi2 hi3 hlen
 go_cut [] (fun wx => StepPost er Fx w gr (.ok (l, o ++ [v])) (.returned .nilIface) wx)
 case rest =>
  have HC := Yq hcut
  clear hcut
  go_wp2_with fail
  go_ret
  exact HC.out
 go_region_law (((refine step_append_lies _ (by rfl) (.tmp 8) (.tmp 12) 24 (by rfl) (gr + 1) 27 i0 (.agg zV.toArray) 7 120 Tryz.underlying24 Hi.out.1 Hi.out.2.1 Hi.out.2.2.1 Hi.out.2.2.2 rfl (by decide) (.slice a2 o.length c2) o.length oes.flatten (by rfl) (Hown.out.alloc _) ⟨w0.heap.size, 0, none⟩ 1 1 zV (by rfl) rfl Hnew.out zV_one (by decide) Hm.out Hz.out Hgr.out (w0.heap.size + 1) (by simp) ?_); (intro g2 c3 w2 ho2 hg2 hat hl2; have hE := own_elem ho2 Hxl.out; obtain ⟨⟨e0, e1, e2, e3, e4, e5, e6⟩, f0, f1, f2, f3, f4, f5, f6⟩ := hE; obtain ⟨zf2, z2⟩ := Hzf.out w2 ⟨hg2.os, hg2.tape, hg2.output, hg2.size, hg2.block⟩; have hn1 := own_neq ho2; have hn2 := own_neq' ho2)))
 iterate 6
  ·clear q0 q1 q2 q3 q4 q5 q6 z1 zf e0 e1 e2 e3 e4 e5 e6 f0 f1 f2 f3 f4 f5 f6 z2 zf2 hn1 hn2 hl1 hl2
   go_wp2_with fail
   go_meet
   have hP := put_done HW.out H1.out HV0.out (grown_trans' hg2) hat ho2 Hxl.out er
   refine hP _ (.inl ?_)
   unfold elset
   with_reducible rfl
  ·clear q0 q1 q2 q3 q4 q5 q6 z1 zf e0 e1 e2 e3 e4 e5 e6 f0 f1 f2 f3 f4 f5 f6 z2 zf2 hn1 hn2 hl1 hl2
   go_wp2_with fail
   go_meet
   have hP := put_done HW.out H1.out HV0.out (grown_trans' hg2) hat ho2 Hxl.out er
   refine hP _ (.inr ?_)
   unfold elset
   with_reducible rfl
end Go.Proofs.YtebekgdjknenlaaGreatDoor
