/- Package syntax, walked: worlds that differ in few blocks; the parser's block. Package syntax, walked: one token: peek. Package syntax, walked: fail, of, sees, takes, sign, word, must. Package syntax, walked: fail, of. -/
import Derived.Test.YtpcfdngnmigkfaaGreatDoorLxSplit
import Derived.Test.YtpcfdngnmigkfaaGreatDoorGroupB
import Derived.StillTailTactics
set_option linter.unusedVariables false
set_option linter.unusedSimpArgs false
namespace Go.Proofs.YtpcfdngnmigkfaaGreatDoor
open Go.RowKit
theorem fragE_some {w : World} {E : List (Option Nat)} {k : Nat} {o : Obj} : fragE w E k = some o ↔ some k ∉ E ∧ w.heap[k]? = some o := by
 unfold fragE; split <;> simp_all
structure Kept (S : List Nat) (w w' : World) : Prop where
 os : w'.os = w.os
 tape : w'.tape = w.tape
 output : w'.output = w.output
 size : w.heap.size ≤ w'.heap.size
 block : ∀ k, k < w.heap.size → k ∉ S → w'.heap[k]? = w.heap[k]?
theorem Kept.refl (S : List Nat) (w : World) : Kept S w w := ⟨rfl, rfl, rfl, Nat.le_refl _, fun _ _ _ => rfl⟩
theorem Kept.trans {S : List Nat} {a b c : World} (h : Kept S a b) (k : Kept S b c) : Kept S a c :=
 ⟨k.os.trans h.os, k.tape.trans h.tape, k.output.trans h.output, Nat.le_trans h.size k.size, fun i hi hS => (k.block i (Nat.lt_of_lt_of_le hi h.size) hS).trans (h.block i hi hS)⟩
theorem Kept.mono {S S' : List Nat} {a b : World} (h : Kept S a b) (hs : ∀ k ∈ S, k < a.heap.size → k ∈ S') : Kept S' a b :=
 ⟨h.os, h.tape, h.output, h.size, fun k hk hn => h.block k hk (fun hm => hn (hs k hm hk))⟩
theorem Kept.of_below {S : List Nat} {a b : World} (h : Below a.heap.size a b) : Kept S a b := ⟨h.os, h.tape, h.output, h.size, fun k hk _ => h.block k hk⟩
theorem Kept.of_grown {S : List Nat} {a b : World} {p : Nat} (h : a.grownBy b (some p)) (hp : p ∈ S) : Kept S a b :=
 ⟨h.os, h.tape, h.output, h.size, fun k hk hn => h.block k hk (fun e => hn (by cases e; exact hp))⟩
theorem Kept.drew {S : List Nat} {a b : World} (h : Kept S a b) : Kept S a b.drew := ⟨h.os, h.tape, h.output, h.size, h.block⟩
theorem Kept.drewN {S : List Nat} {a b : World} (h : Kept S a b) (n : Nat) : Kept S a (b.drewN n) := ⟨h.os, h.tape, h.output, h.size, h.block⟩
theorem Kept.below {S : List Nat} {a b : World} {B : Nat} (h : Kept S a b) (hB : B ≤ a.heap.size) (hS : ∀ k ∈ S, B ≤ k) : Below B a b :=
 ⟨h.os, h.tape, h.output, h.size, fun k hk => h.block k (Nat.lt_of_lt_of_le hk hB) (fun hm => by have := hS k hm; omega)⟩
theorem Kept.blk {S : List Nat} {a b : World} {g : Nat} {cs : List Value} (h : Kept S a b) (hb : Blk a g cs) (hg : g ∉ S) : Blk b g cs := by
 obtain ⟨t, e⟩ := hb
 exact ⟨t, (h.block g (heap_lt e) hg).trans e⟩
theorem Kept.fle {S : List Nat} {a b : World} (h : Kept S a b) : FLe (fragE a (S.map some)) (fragE b (S.map some)) := fun k o e => by
 obtain ⟨h1, h2⟩ := fragE_some.1 e
 exact fragE_some.2 ⟨h1, (h.block k (heap_lt h2) (fun hm => h1 (List.mem_map.2 ⟨k, hm, rfl⟩))).trans h2⟩
def BlkT (w : World) (g : Nat) (t : TypeId) (cs : List Value) : Prop := w.heap[g]? = some (.cells cs.toArray t (0, 0))
theorem BlkT.blk {w : World} {g : Nat} {t : TypeId} {cs : List Value} (h : BlkT w g t cs) : Blk w g cs := ⟨t, h⟩
theorem BlkT.lt {w : World} {g : Nat} {t : TypeId} {cs : List Value} (h : BlkT w g t cs) : g < w.heap.size := heap_lt h
theorem BlkT.grown {w w' : World} {g : Nat} {t : TypeId} {X : Option Nat} {cs : List Value} (h : BlkT w g t cs) (hb : w.grownBy w' X) (hg : some g ≠ X) : BlkT w' g t cs := (hb.block g h.lt hg).trans h
theorem BlkT.below {w w' : World} {g B : Nat} {t : TypeId} {cs : List Value} (h : BlkT w g t cs) (hb : Below B w w') (hg : g < B) : BlkT w' g t cs := (hb.block g hg).trans h
theorem Kept.blkT {S : List Nat} {a b : World} {g : Nat} {t : TypeId} {cs : List Value} (h : Kept S a b) (hb : BlkT a g t cs) (hg : g ∉ S) : BlkT b g t cs := (h.block g hb.lt hg).trans hb
theorem wpList_box_layT {P : Program} {ops : Array Oper} {rest : List Oper} {op : Oper} {a : Act} {w : World} {Q : Exit → Act → World → Prop} (hgd : Region.wanted op (yielded ops a.tmps) = true) (ty : TypeId) (x : Operand) (ho : op.op = .box ty x) (cs : List Value) (hx : a.eval x = .agg cs.toArray)
  (h : ∀ w2 g, w.heap.size ≤ g → BlkT w2 g ty cs → Below w.heap.size w w2 → wpList P ops Q rest (a.put op.dst (.pointer (some ⟨g, 0, none⟩))) w2) : wpList P ops Q (op :: rest) a w := by
 refine BigFrame.wpList_want hgd fun K hK => ?_
 unfold Oper.wp execOp
 simp only [ho, hx, Instr.box, newVar, newRow, Value.cells, Sem.run_bind, Sem.run_pure, run_newObj, Result.andThen_ok]
 exact hK _ _ (h _ _ (Nat.le_refl _) (heap_alloc_last w _) ((Below.refl _ _).alloc (Nat.le_refl _) _))
def ErrAt (A : Nat → Addr) (p : Nat) (w : World) : Option (Nat × Nat × Nat) → Value → Prop
 | none, ev => ev = .nilIface
 | some x, ev => ∃ g, ev = .iface 73 (.pointer (some ⟨g, 0, none⟩)) ∧ BlkT w g 75 [.int .i64 (x.2.1 : Nat), .int .i64 (x.2.2 : Nat), errV (A (x.1 - 1))] ∧ g ≠ p
def Par (A : Nat → Addr) (p : Nat) (v : Value) (ts : List Lx.Tok) (s : Sx.St) (w : World) : Prop :=
 ∃ ev, Blk w p [v, .int .i64 (s.pos : Nat), ev] ∧ ErrAt A p w s.err ev ∧ FlatV tC (fragE w [some p]) v ts ∧ s.pos ≤ ts.length
theorem ErrAt.kept {A : Nat → Addr} {p : Nat} {S : List Nat} {w w' : World} {x : Option (Nat × Nat × Nat)} {ev : Value} (h : ErrAt A p w x ev) (hk : Kept S w w') (hS : ∀ k ∈ S, k < w.heap.size → k = p) : ErrAt A p w' x ev := by
 cases x with
 | none => exact h
 | some x =>
  obtain ⟨g, e, hb, hne⟩ := h
  exact ⟨g, e, hk.blkT hb (fun hm => hne (hS g hm hb.lt)), hne⟩
theorem sizeTokS (w : World) : (Go.sizeOf (Tryz.prog.elem 48)).run Tryz.prog w = .ok 5 w := by kernel_rfl
set_option maxHeartbeats 2000000 in
set_option maxRecDepth 100000 in
theorem peek_any (A : Nat → Addr) (p : Nat) (v : Value) (ts : List Lx.Tok) (s : Sx.St) (w : World) (h : Par A p v ts s w) :
  Calls Tryz.prog 48 #[.pointer (some ⟨p, 0, none⟩)] w fun e w' => e = .returned (.agg (tC (Sx.peek ts s)).toArray) ∧ Below w.heap.size w w' := by
 obtain ⟨ev, hB, hE, hF, hl⟩ := h
 replace hF := hF.mono (fragE_le _ _)
 have c0 : w.cell? ⟨p, 0, none⟩ = some v := hB.cell (o := 0) rfl
 have c1 : w.cell? ⟨p, 1, none⟩ = some (.int .i64 (s.pos : Nat)) := hB.cell (o := 1) rfl
 have c2 : w.cell? ⟨p, 2, none⟩ = some ev := hB.cell (o := 2) rfl
 have hplt := hB.lt
 clear hB
 obtain ⟨pos, err⟩ := s
 obtain ⟨ad, cap, rfl, hlc, hcm, _⟩ := hF.len
 cases err with
 | some x =>
  obtain ⟨g, rfl, _, _⟩ := hE
  have e : Sx.peek ts ⟨pos, some x⟩ = Sx.zTok := rfl
  rw [e]
  clear e hF
  go_enter Tryz.func48, Tryz.ntmps48
  go_upto_region 1 with (refine wpList_alloc_lay rfl 80 rfl zT zeroT ?_; (intro w3 g3 hg3 hB3 hb3))
  replace c0 := (hb3.cell (p := ⟨p, 0, none⟩) hplt).trans c0
  replace c1 := (hb3.cell (p := ⟨p, 1, none⟩) hplt).trans c1
  replace c2 := (hb3.cell (p := ⟨p, 2, none⟩) hplt).trans c2
  have HB3 := Yq hB3; have Hb3 := Yq hb3; have Hg3 := Yq hg3
  clear hB3 hb3 hg3
  go_simp
  go_quiet (fail)
  generalize hW : w3.drewN nq = w4
  have hB4 : Blk w4 g3 zT := by rw [← hW]; exact HB3.out
  have Hb4 : Hid (Below w.heap.size w w4) := Yq (by rw [← hW]; exact Below.drewN Hb3.out _)
  clear hW c0 c1 c2
  go_wp2_with (first
   | (refine wpList_store_all rfl 80 _ _ rfl g3 _ rfl rfl zT hB4 infoT rfl ?_ ?_; (· exact one_tok _ _ _ _ _); (intro w5 hB5 hgr; have Hb5 := Yq (Below.grown Hb4.out hgr Hb4.out.size (fun _ e => by cases e; exact Hg3.out)); clear hgr)))
  refine bodyPost_ret (v := .agg zT.toArray) ?_ rfl ⟨rfl, Hb5.out⟩
  exact results_blk (p := 2) (ty := 80) rfl _ _ g3 zT rfl hB5 _ Tryz.underlying80 rfl infoT
 | none =>
  have hE : ev = .nilIface := hE
  subst hE
  simp only at hl c1
  by_cases hlt : pos < ts.length
  ·have e : Sx.peek ts ⟨pos, none⟩ = ts[pos] := by unfold Sx.peek; simp [hlt]
   rw [e]
   obtain ⟨b, o, hbl, hidx, hcell⟩ := FlatV.at hF tC_len (by decide) (i := pos) hlt Tryz.underlying48 sizeTokS
   obtain ⟨t, ht⟩ : ∃ t, t = ts[pos] := ⟨_, rfl⟩
   rw [← ht] at hcell ⊢
   have d0 : w.cell? ⟨b, o, none⟩ = some (.int .i64 t.kind) := by have := hcell 0 _ rfl; rw [Nat.add_zero] at this; exact this
   have d1 : w.cell? ⟨b, o + 1, none⟩ = some (.string (toB t.text)) := hcell 1 _ rfl
   have d2 : w.cell? ⟨b, o + 2, none⟩ = some (.int .i64 t.num) := hcell 2 _ rfl
   have d3 : w.cell? ⟨b, o + 3, none⟩ = some (.int .i64 t.line) := hcell 3 _ rfl
   have d4 : w.cell? ⟨b, o + 4, none⟩ = some (.int .i64 t.col) := hcell 4 _ rfl
   have hz : (pos : Int) < (ts.length : Int) := by omega
   clear e hF hcell ht
   go_enter Tryz.func48, Tryz.ntmps48
   go_upto_region 1 with (refine wpList_alloc_lay rfl 80 rfl zT zeroT ?_; (intro w3 g3 hg3 hB3 hb3))
   have HB3 := Yq hB3; have Hb3 := Yq hb3; have Hg3 := Yq hg3
   replace c0 := (hb3.cell (p := ⟨p, 0, none⟩) hplt).trans c0
   replace c1 := (hb3.cell (p := ⟨p, 1, none⟩) hplt).trans c1
   replace c2 := (hb3.cell (p := ⟨p, 2, none⟩) hplt).trans c2
   replace d0 := (hb3.cell (p := ⟨b, o, none⟩) hbl).trans d0
   replace d1 := (hb3.cell (p := ⟨b, o + 1, none⟩) hbl).trans d1
   replace d2 := (hb3.cell (p := ⟨b, o + 2, none⟩) hbl).trans d2
   replace d3 := (hb3.cell (p := ⟨b, o + 3, none⟩) hbl).trans d3
   replace d4 := (hb3.cell (p := ⟨b, o + 4, none⟩) hbl).trans d4
   clear hB3 hb3 hg3
   go_simp
   go_quiet (fail)
   generalize hW : w3.drewN nq = w4
   have hB4 : Blk w4 g3 zT := by rw [← hW]; exact HB3.out
   have Hb4 : Hid (Below w.heap.size w w4) := Yq (by rw [← hW]; exact Below.drewN Hb3.out _)
   change (w3.drewN nq).cell? ⟨p, 0, none⟩ = _ at c0
   rw [hW] at c0
   change (w3.drewN nq).cell? ⟨p, 1, none⟩ = _ at c1
   rw [hW] at c1
   change (w3.drewN nq).cell? ⟨b, o, none⟩ = _ at d0
   rw [hW] at d0
   change (w3.drewN nq).cell? ⟨b, o + 1, none⟩ = _ at d1
   rw [hW] at d1
   change (w3.drewN nq).cell? ⟨b, o + 2, none⟩ = _ at d2
   rw [hW] at d2
   change (w3.drewN nq).cell? ⟨b, o + 3, none⟩ = _ at d3
   rw [hW] at d3
   change (w3.drewN nq).cell? ⟨b, o + 4, none⟩ = _ at d4
   rw [hW] at d4
   clear hW c2
   go_wp2_with fail
   refine wp_region_still_tail 10 (by kernel_rfl) (by kernel_rfl) ?_
   simp only [List.take_succ_cons, List.take_zero, List.drop_succ_cons, List.drop_zero]
   repeat still_step
   refine wpStill_nil ?_
   change wpList _ _ _ _ _ w4.drew
   have hB4' : Blk w4.drew g3 zT := hB4
   go_wp2_with (first
    | (refine wpList_store_all rfl 80 _ _ rfl g3 _ rfl rfl zT hB4' infoT rfl ?_ ?_; (· exact one_tok _ _ _ _ _); (intro w5 hB5 hgr; have Hb5 := Yq (Below.grown Hb4.out.drew hgr Hb4.out.size (fun _ e => by cases e; exact Hg3.out)); clear hgr)))
   refine bodyPost_ret (v := .agg (tC t).toArray) ?_ rfl ⟨rfl, Hb5.out⟩
   exact results_blk (p := 2) (ty := 80) rfl _ _ g3 (tC t) rfl hB5 _ Tryz.underlying80 rfl infoT
  ·have e : Sx.peek ts ⟨pos, none⟩ = Sx.zTok := by unfold Sx.peek; simp [hlt]
   rw [e]
   have hz : (ts.length : Int) ≤ (pos : Int) := by omega
   clear e hF
   go_enter Tryz.func48, Tryz.ntmps48
   go_upto_region 1 with (refine wpList_alloc_lay rfl 80 rfl zT zeroT ?_; (intro w3 g3 hg3 hB3 hb3))
   replace c0 := (hb3.cell (p := ⟨p, 0, none⟩) hplt).trans c0
   replace c1 := (hb3.cell (p := ⟨p, 1, none⟩) hplt).trans c1
   replace c2 := (hb3.cell (p := ⟨p, 2, none⟩) hplt).trans c2
   have HB3 := Yq hB3; have Hb3 := Yq hb3; have Hg3 := Yq hg3
   clear hB3 hb3 hg3
   go_simp
   go_quiet (fail)
   generalize hW : w3.drewN nq = w4
   have hB4 : Blk w4 g3 zT := by rw [← hW]; exact HB3.out
   have Hb4 : Hid (Below w.heap.size w w4) := Yq (by rw [← hW]; exact Below.drewN Hb3.out _)
   clear hW c0 c1 c2
   go_wp2_with (first
    | (refine wpList_store_all rfl 80 _ _ rfl g3 _ rfl rfl zT hB4 infoT rfl ?_ ?_; (· exact one_tok _ _ _ _ _); (intro w5 hB5 hgr; have Hb5 := Yq (Below.grown Hb4.out hgr Hb4.out.size (fun _ e => by cases e; exact Hg3.out)); clear hgr)))
   refine bodyPost_ret (v := .agg zT.toArray) ?_ rfl ⟨rfl, Hb5.out⟩
   exact results_blk (p := 2) (ty := 80) rfl _ _ g3 zT rfl hB5 _ Tryz.underlying80 rfl infoT
theorem Par.below {A : Nat → Addr} {p : Nat} {v : Value} {ts : List Lx.Tok} {s : Sx.St} {w w' : World} (h : Par A p v ts s w) (hb : Below w.heap.size w w') : Par A p v ts s w' := by
 obtain ⟨ev, hB, hE, hF, hl⟩ := h
 exact ⟨ev, hB.below hb hB.lt, hE.kept (Kept.of_below (S := []) hb) (fun k hk => by cases hk), hF.mono (belowE hb (fun k hk => .inl hk)), hl⟩
theorem Par.lt {A : Nat → Addr} {p : Nat} {v : Value} {ts : List Lx.Tok} {s : Sx.St} {w : World} (h : Par A p v ts s w) : p < w.heap.size := by
 obtain ⟨ev, hB, _⟩ := h; exact hB.lt
theorem flat_grown {p : Nat} {v : Value} {ts : List Lx.Tok} {w w' : World} (hF : FlatV tC (fragE w [some p]) v ts) (hg : w.grownBy w' (some p)) : FlatV tC (fragE w' [some p]) v ts :=
 hF.mono (grownE hg (.inr (by simp)) (fun k hk => .inl hk))
theorem toB_beq (a b : Lx.Bs) : ((toB a).toList == (toB b).toList) = decide (a = b) := by
 rw [Lib.toList_data, Lib.toList_data, toB_list, toB_list, Bool.eq_iff_iff, beq_iff_eq, decide_eq_true_iff]
theorem one_tC (t : Lx.Tok) : ∀ u ∈ tC t, u.oneCell' = true := one_tok _ _ _ _ _
set_option maxHeartbeats 2000000 in
set_option maxRecDepth 100000 in
theorem sees_any (A : Nat → Addr) (p k : Nat) (v : Value) (ts : List Lx.Tok) (s : Sx.St) (t : Lx.Bs) (w : World) (h : Par A p v ts s w) :
  Calls Tryz.prog 51 #[.pointer (some ⟨p, 0, none⟩), .int .i64 k, .string (toB t)] w fun e w' => e = .returned (.bool (Sx.sees ts k t s)) ∧ Below w.heap.size w w' := by
 have HP := Yq (peek_any A p v ts s w h)
 clear h
 unfold Sx.sees
 generalize Sx.peek ts s = x at *
 have hz : ((x.kind : Int) == (k : Int)) = decide (x.kind = k) := by
  rw [Bool.eq_iff_iff, beq_iff_eq, decide_eq_true_iff]; omega
 have hs := toB_beq x.text t
 have hd : decide (x.kind = k ∧ x.text = t) = (decide (x.kind = k) && decide (x.text = t)) := by simp
 rw [hd]
 clear hd
 generalize decide (x.kind = k) = b1 at *
 generalize decide (x.text = t) = b2 at *
 cases b1
 all_goals
  go_enter Tryz.func51, Tryz.ntmps51
  go_upto_region 2 with (first
   | (go_at_call 48; (with_reducible refine HP.out.mono ?_); rintro e w1 ⟨rfl, hb1⟩)
   | (refine wpList_alloc_lay rfl 80 rfl zT zeroT ?_; (intro w3 g3 hg3 hB3 hb3))
   | (refine wpList_store_all rfl 80 _ _ rfl g3 (tC x) rfl rfl zT hB3 infoT rfl (one_tC x) ?_; (intro w4 hB4 hgr; have Hb4 := Yq (hb1.trans ((Below.grown hb3 hgr hb3.size (fun _ e => by cases e; exact hg3)).mono hb1.size)); clear hgr hB3 hb3)))
  have c0 : w4.cell? ⟨g3, 0, none⟩ = some (.int .i64 x.kind) := hB4.cell (o := 0) rfl
  have c1 : w4.cell? ⟨g3, 1, none⟩ = some (.string (toB x.text)) := hB4.cell (o := 1) rfl
  clear hB4
  go_simp
  go_wp2_with fail
  go_ret
  exact ⟨ret_bool (by simp), Hb4.out⟩
set_option maxHeartbeats 2000000 in
set_option maxRecDepth 100000 in
theorem takes_any (A : Nat → Addr) (p k : Nat) (hk : k ≠ 0) (v : Value) (ts : List Lx.Tok) (s : Sx.St) (t : Lx.Bs) (w : World) (h : Par A p v ts s w) :
  Calls Tryz.prog 24 #[.pointer (some ⟨p, 0, none⟩), .int .i64 k, .string (toB t)] w fun e w' => e = .returned (.bool (Sx.takes ts k t s).1) ∧ Par A p v ts (Sx.takes ts k t s).2 w' ∧ Kept [p] w w' := by
 have HS := Yq (sees_any A p k v ts s t w h)
 unfold Sx.takes
 cases hs : Sx.sees ts k t s
 ·rw [hs] at HS
  have Hp := Yq h
  clear h hs
  go_enter Tryz.func24, Tryz.ntmps24
  go_wp2_with fail
  refine HS.out.mono ?_
  rintro e w1 ⟨rfl, hb1⟩
  go_wp2_with fail
  go_ret
  exact ⟨rfl, Hp.out.below hb1, Kept.of_below hb1⟩
 ·have hpk : s.err = none ∧ s.pos < ts.length := by
   unfold Sx.sees Sx.peek at hs
   cases he : s.err with
   | some x => rw [he] at hs; simp [Sx.zTok] at hs; omega
   | none =>
    refine ⟨rfl, ?_⟩
    rw [he] at hs
    rcases Nat.lt_or_ge s.pos ts.length with h1 | h1
    ·exact h1
    ·rw [List.getElem?_eq_none h1] at hs; simp [Sx.zTok] at hs; omega
  rw [hs] at HS
  obtain ⟨hpe, hpl⟩ := hpk
  have Hp := Yq h
  clear hs h
  go_enter Tryz.func24, Tryz.ntmps24
  go_wp2_with fail
  refine HS.out.mono ?_
  rintro e w1 ⟨rfl, hb1⟩
  obtain ⟨ev, hB, hE, hF, hl⟩ := Hp.out.below hb1
  have hcm : s.pos ≤ maxLen := by obtain ⟨_, _, _, h1, h2, _⟩ := hF.len; omega
  unfold maxLen at hcm
  have hcm2 : s.pos + 1 ≤ 9223372036854775807 := by
   obtain ⟨_, _, _, h1, h2, _⟩ := hF.len
   unfold maxLen at h2; omega
  have c1 : w1.cell? ⟨p, 1, none⟩ = some (.int .i64 (s.pos : Nat)) := hB.cell (o := 1) rfl
  have HB := Yq hB; have HE := Yq hE; have HF := Yq hF
  have f1 := hB.frozen 1
  clear hB hE hF hl
  go_wp2_with fail
  go_ret
  have hg : w1.grownBy (w1.setCell ⟨p, 1, none⟩ (.int .i64 ((s.pos : Int) + 1))) (some p) := grown_setCell _ _ _
  refine ⟨rfl, ⟨ev, HB.out.setCell (o := 1) _, HE.out.kept (S := [p]) (Kept.of_grown hg (by simp)) (fun k hk _ => by simpa using hk), flat_grown HF.out hg, hpl⟩, (Kept.of_below hb1).trans (Kept.of_grown hg (by simp))⟩
theorem kind_here {ts : List Lx.Tok} {s : Sx.St} {k : Nat} (hk : k ≠ 0) (h : (Sx.peek ts s).kind = k) : s.err = none ∧ s.pos < ts.length := by
 unfold Sx.peek at h
 cases he : s.err with
 | some x => rw [he] at h; exact absurd h.symm hk
 | none =>
  refine ⟨rfl, ?_⟩
  rw [he] at h
  rcases Nat.lt_or_ge s.pos ts.length with h1 | h1
  ·exact h1
  ·rw [List.getElem?_eq_none h1] at h; exact absurd h.symm hk
theorem Kept.then_new {S : List Nat} {w a b : World} {g : Nat} (h : Kept S w a) (hg : a.grownBy b (some g)) (hge : w.heap.size ≤ g) : Kept S w b :=
 ⟨hg.os.trans h.os, hg.tape.trans h.tape, hg.output.trans h.output, Nat.le_trans h.size hg.size, fun k hk hS => (hg.block k (Nat.lt_of_lt_of_le hk h.size) (fun e => by cases e; omega)).trans (h.block k hk hS)⟩
theorem Blk.same {w : World} {g : Nat} {cs ds : List Value} (h : Blk w g cs) (k : Blk w g ds) : cs = ds := by
 obtain ⟨t, h⟩ := h
 obtain ⟨u, k⟩ := k
 have := h.symm.trans k
 simp only [Option.some.injEq, Obj.cells.injEq] at this
 simpa using congrArg Array.toList this.1
theorem ErrAt.other {A : Nat → Addr} {p g1 : Nat} {w w' : World} {x : Option (Nat × Nat × Nat)} {ev : Value} {cs : List Value} (h : ErrAt A p w x ev) (hB : Blk w g1 cs) (hl : cs.length ≠ 3) (hg : w.grownBy w' (some g1)) : ErrAt A p w' x ev := by
 cases x with
 | none => exact h
 | some x =>
  obtain ⟨g, e, hb, hne⟩ := h
  refine ⟨g, e, hb.grown hg (fun e => ?_), hne⟩
  cases e
  exact hl (by rw [hB.same hb.blk]; rfl)
theorem ErrAt.row {A : Nat → Addr} {p : Nat} {w w' : World} {x : Option (Nat × Nat × Nat)} {ev : Value} {base : Nat} {e : TypeId} {size n : Nat} {v : Value} {xs : List Value} (h : ErrAt A p w x ev) (ho : w.ownsRow base e size v n xs) (hne : e ≠ 75) (hg : w.grownBy w' v.ownBlock) : ErrAt A p w' x ev := by
 cases x with
 | none => exact h
 | some x =>
  obtain ⟨g, e', hb, hnp⟩ := h
  refine ⟨g, e', hb.grown hg (fun e2 => ?_), hnp⟩
  rcases ho.2 with ⟨rfl, _⟩ | ⟨g', cap', cur', rfl, _, hg', _⟩
  ·cases e2
  ·cases e2
   rw [show w.heap[g']? = _ from hb] at hg'
   cases hg'
   exact hne rfl
set_option maxHeartbeats 2000000 in
set_option maxRecDepth 100000 in
theorem fail_any (A : Nat → Addr) (p : Nat) (v : Value) (ts : List Lx.Tok) (s : Sx.St) (w : World) (hv : Vars A w) (h : Par A p v ts s w) :
  Calls Tryz.prog 28 #[.pointer (some ⟨p, 0, none⟩)] w fun e w' => e = .returned (.tuple #[]) ∧ Par A p v ts (Sx.fail ts s) w' ∧ Kept [p] w w' := by
 have HP := Yq (peek_any A p v ts s w h)
 have Hp := Yq h
 have Hv := Yq hv
 obtain ⟨ev, hB, hE, hF, hl⟩ := h
 have c2 : w.cell? ⟨p, 2, none⟩ = some ev := hB.cell (o := 2) rfl
 clear hB hF hl hv
 unfold Sx.fail
 cases he : s.err with
 | some x =>
  rw [he] at hE
  obtain ⟨g, rfl, _, _⟩ := hE
  simp only [Option.isSome_some, if_true]
  clear he
  go_enter Tryz.func28, Tryz.ntmps28
  go_wp2_with fail
  go_end0
  exact ⟨rfl, Hp.out, Kept.refl _ _⟩
 | none =>
  rw [he] at hE
  have hE : ev = .nilIface := hE
  subst hE
  simp only [Option.isSome_none, Bool.false_eq_true, if_false]
  have He := Yq he
  generalize Sx.peek ts s = x at *
  clear he
  go_enter Tryz.func28, Tryz.ntmps28
  go_upto_region 2 with (first
   | (go_at_call 48; (with_reducible refine HP.out.mono ?_); rintro e w1 ⟨rfl, hb1⟩)
   | (refine wpList_alloc_lay rfl 80 rfl zT zeroT ?_; (intro w3 g3 hg3 hB3 hb3))
   | (refine wpList_store_all rfl 80 _ _ rfl g3 (tC x) rfl rfl zT hB3 infoT rfl (one_tC x) ?_; (intro w4 hB4 hgr; have Hb4 := Yq (hb1.trans ((Below.grown hb3 hgr hb3.size (fun _ e => by cases e; exact hg3)).mono hb1.size)); clear hgr hB3 hb3)))
  have d3 : w4.cell? ⟨g3, 3, none⟩ = some (.int .i64 x.line) := hB4.cell (o := 3) rfl
  have d4 : w4.cell? ⟨g3, 4, none⟩ = some (.int .i64 x.col) := hB4.cell (o := 4) rfl
  have hform := (Hv.out.below Hb4.out).form
  obtain ⟨ev4, hB5, hE5, hF5, hl5⟩ := Hp.out.below Hb4.out
  rw [He.out] at hE5
  have hE5 : ev4 = .nilIface := hE5
  subst hE5
  have Hlt := Yq hB5.lt
  have HF5 := Yq hF5; have Hl5 := Yq hl5
  unfold errV at hform
  clear hB4 hF5 hl5 c2
  go_simp
  go_wp2_with (first
   | (refine wpList_box_layT rfl 75 _ rfl [.int .i64 x.line, .int .i64 x.col, .iface 216 (.pointer (some (A 8)))] rfl ?_; (intro w6 g6 hg6 hB6 hb6; have HBp := hB5.below hb6 hB5.lt; clear hB5))
   | (refine wpList_store_blk1 rfl 28 (.tmp 20) (.tmp 18) rfl p 2 (.iface 73 (.pointer (some ⟨g6, 0, none⟩))) rfl rfl _ HBp rfl ?_ rfl ?_; (· show 2 + 1 ≤ 3; decide); (intro w7 hB7 hgr hsz)))
  have hne : g6 ≠ p := fun e => by have := Hlt.out; omega
  have hk6 : Kept [p] w w6 := (Kept.of_below Hb4.out).trans (Kept.of_below hb6)
  go_end0
  refine ⟨rfl, ⟨_, hB7, ⟨g6, rfl, hB6.grown hgr (fun e => hne (Option.some.inj e)), hne⟩, flat_grown (HF5.out.mono (belowE hb6 (fun k hk => .inl hk))) hgr, Hl5.out⟩, hk6.trans (Kept.of_grown hgr (by simp))⟩
set_option maxHeartbeats 4000000 in
set_option maxRecDepth 100000 in
theorem of_any (A : Nat → Addr) (p k : Nat) (hk : k ≠ 0) (v : Value) (ts : List Lx.Tok) (s : Sx.St) (w : World) (hv : Vars A w) (h : Par A p v ts s w) :
  Calls Tryz.prog 49 #[.pointer (some ⟨p, 0, none⟩), .int .i64 k] w fun e w' => e = .returned (.agg (tC (Sx.of ts k s).1).toArray) ∧ Par A p v ts (Sx.of ts k s).2 w' ∧ Kept [p] w w' := by
 have Hp := Yq h
 have Hv := Yq hv
 have HK := Yq (fun e => kind_here (ts := ts) (s := s) hk e)
 have Hplt := Yq h.lt
 obtain ⟨ev0, hB0, hE0, hF0, hl0⟩ := h
 have HE0 := Yq hE0; have HF0 := Yq hF0
 clear hE0 hF0 hl0
 have HP := Yq (fun w0 (h0 : Par A p v ts s w0) => peek_any A p v ts s w0 h0)
 have HFl := Yq (fun w0 (v0 : Vars A w0) (h0 : Par A p v ts s w0) => fail_any A p v ts s w0 v0 h0)
 clear hv
 unfold Sx.of
 generalize Sx.peek ts s = x at *
 by_cases hkk : x.kind = k
 ·rw [if_pos hkk]
  obtain ⟨he, hpl⟩ := HK.out hkk
  have hz : ((x.kind : Int) == (k : Int)) = true := by rw [hkk]; exact beq_self_eq_true _
  clear HK hkk HFl
  go_enter Tryz.func49, Tryz.ntmps49
  go_upto_region 1 with (refine wpList_alloc_lay rfl 80 rfl zT zeroT ?_; (intro w1 g1 hg1 hB1 hb1))
  have HB1 := Yq hB1; have Hb1 := Yq hb1; have Hg1 := Yq hg1
  have HP1 := Yq (HP.out w1 (Hp.out.below hb1))
  clear hB1 hb1 hg1
  go_upto_region 2 with (first
   | (go_at_call 48; (with_reducible refine HP1.out.mono ?_); rintro e w2 ⟨rfl, hb2⟩; have HB2 := Yq (HB1.out.below hb2 HB1.out.lt); have Hb2 := Yq (Hb1.out.trans (hb2.mono Hb1.out.size)); clear hb2)
   | (refine wpList_alloc_lay rfl 80 rfl zT zeroT ?_; (intro w3 g3 hg3 hB3 hb3; have HB13 := Yq (HB2.out.below hb3 HB2.out.lt); have Hb3 := Yq (Hb2.out.trans (hb3.mono Hb2.out.size)); have Hg3 := Yq (Nat.le_trans Hb2.out.size hg3); have hne := Yq (show g1 ≠ g3 from fun e => by have := HB2.out.lt; omega); clear hb3 hg3))
   | (refine wpList_store_all rfl 80 _ _ rfl g3 (tC x) rfl rfl zT hB3 infoT rfl (one_tC x) ?_; (intro w4 hB4 hgr; have HB14 := Yq (HB13.out.grown hgr (fun e => hne.out (Option.some.inj e))); have Hb4 := Yq (Below.grown Hb3.out hgr Hb3.out.size (fun _ e => by cases e; exact Hg3.out)); clear hgr hB3)))
  have c0 : w4.cell? ⟨g3, 0, none⟩ = some (.int .i64 x.kind) := hB4.cell (o := 0) rfl
  have hBp := hB0.below Hb4.out hB0.lt
  have c1 : w4.cell? ⟨p, 1, none⟩ = some (.int .i64 (s.pos : Nat)) := hBp.cell (o := 1) rfl
  have f1 := hBp.frozen 1
  have HBp := Yq hBp; have HB4 := Yq hB4
  have np3 : g3 ≠ p := fun e => by have := Hplt.out; have := Hg3.out; omega
  have np1 : g1 ≠ p := fun e => by have := Hplt.out; have := Hg1.out; omega
  have Np3 := Yq np3; have Np1 := Yq np1
  clear hBp hB4 np3 np1 hB0
  have hcm2 : s.pos + 1 ≤ 9223372036854775807 := by
   obtain ⟨_, _, _, h1, h2, _⟩ := HF0.out.len
   unfold maxLen at h2; omega
  go_simp
  go_upto_region 6 with fail
  generalize hW : w4.setCell ⟨p, 1, none⟩ (.int .i64 ((s.pos : Int) + 1)) = w5
  have hg : w4.grownBy w5 (some p) := by rw [← hW]; exact grown_setCell _ _ _
  have hBp5 : Hid (Blk w5 p [v, .int .i64 ((s.pos + 1 : Nat) : Int), ev0]) := Yq (by rw [← hW]; exact HBp.out.setCell (o := 1) _)
  have HB15 := HB14.out.grown hg (fun e => Np1.out (Option.some.inj e))
  have r9 : w5.rangeAt g3 0 (tC x) := (HB4.out.grown hg (fun e => Np3.out (Option.some.inj e))).whole
  have Hk5 : Hid (Kept [p] w w5) := Yq ((Kept.of_below Hb4.out).trans (Kept.of_grown hg (by simp)))
  have Hsz := Yq hg.size
  clear hW hg c0 c1 f1
  go_wp2_with (first
   | (refine wpList_load_seg rfl 80 _ rfl _ _ rfl _ _ r9 Tryz.underlying80 rfl infoT ?_)
   | (refine wpList_store_all rfl 80 _ _ rfl g1 (tC x) rfl rfl zT HB15 infoT rfl (one_tC x) ?_; (intro w6 hB6 hgr; clear r9)))
  refine bodyPost_ret (v := .agg (tC x).toArray) ?_ rfl ⟨rfl, ?_, ?_⟩
  ·exact results_blk (p := 4) (ty := 80) rfl _ _ g1 (tC x) rfl hB6 _ Tryz.underlying80 rfl infoT
  ·have hk6 := Hk5.out.then_new hgr Hg1.out
   exact ⟨ev0, hBp5.out.grown hgr (fun e => Np1.out (Option.some.inj e).symm), HE0.out.kept hk6 (fun k hk _ => by simpa using hk), HF0.out.mono hk6.fle, hpl⟩
  ·exact Hk5.out.then_new hgr Hg1.out
 ·rw [if_neg hkk]
  have hz : ¬ (x.kind : Int) = (k : Int) := by omega
  have hz2 : ((x.kind : Int) == (k : Int)) = false := beq_eq_false_iff_ne.2 hz
  clear HK hkk hB0
  go_enter Tryz.func49, Tryz.ntmps49
  go_upto_region 1 with (refine wpList_alloc_lay rfl 80 rfl zT zeroT ?_; (intro w1 g1 hg1 hB1 hb1))
  have HB1 := Yq hB1; have Hb1 := Yq hb1; have Hg1 := Yq hg1
  have HP1 := Yq (HP.out w1 (Hp.out.below hb1))
  clear hB1 hb1 hg1
  go_upto_region 2 with (first
   | (go_at_call 48; (with_reducible refine HP1.out.mono ?_); rintro e w2 ⟨rfl, hb2⟩; have HB2 := Yq (HB1.out.below hb2 HB1.out.lt); have Hb2 := Yq (Hb1.out.trans (hb2.mono Hb1.out.size)); clear hb2)
   | (refine wpList_alloc_lay rfl 80 rfl zT zeroT ?_; (intro w3 g3 hg3 hB3 hb3; have HB13 := Yq (HB2.out.below hb3 HB2.out.lt); have Hb3 := Yq (Hb2.out.trans (hb3.mono Hb2.out.size)); have Hg3 := Yq (Nat.le_trans Hb2.out.size hg3); have hne := Yq (show g1 ≠ g3 from fun e => by have := HB2.out.lt; omega); clear hb3 hg3))
   | (refine wpList_store_all rfl 80 _ _ rfl g3 (tC x) rfl rfl zT hB3 infoT rfl (one_tC x) ?_; (intro w4 hB4 hgr; have HB14 := Yq (HB13.out.grown hgr (fun e => hne.out (Option.some.inj e))); have Hb4 := Yq (Below.grown Hb3.out hgr Hb3.out.size (fun _ e => by cases e; exact Hg3.out)); clear hgr hB3)))
  have c0 : w4.cell? ⟨g3, 0, none⟩ = some (.int .i64 x.kind) := hB4.cell (o := 0) rfl
  have HF4 := Yq (HFl.out w4 (Hv.out.below Hb4.out) (Hp.out.below Hb4.out))
  have Np1 := Yq (show g1 ≠ p from fun e => by have := Hplt.out; have := Hg1.out; omega)
  clear hB4
  go_simp
  go_wp2_with (first
   | (go_at_call 28; (with_reducible refine HF4.out.mono ?_); rintro e w5 ⟨rfl, hp5, hk5⟩; have HP5 := Yq hp5; have HB15 := hk5.blk HB14.out (by simpa using Np1.out); have Hk5 := Yq ((Kept.of_below Hb4.out).trans hk5); clear hp5 hk5)
   | (refine wpList_store_all rfl 80 _ _ rfl g1 zT rfl rfl zT HB15 infoT rfl ?_ ?_; (· exact one_tok _ _ _ _ _); (intro w6 hB6 hgr)))
  refine bodyPost_ret (v := .agg (tC Sx.zTok).toArray) ?_ rfl ⟨rfl, ?_, ?_⟩
  ·exact results_blk (p := 4) (ty := 80) rfl _ _ g1 zT rfl hB6 _ Tryz.underlying80 rfl infoT
  ·have hk6 := Hk5.out.then_new hgr Hg1.out
   obtain ⟨ev5, hB5, hE5, _, hl5⟩ := HP5.out
   exact ⟨ev5, hB5.grown hgr (fun e => Np1.out (Option.some.inj e).symm), hE5.other HB15 (by decide) hgr, HF0.out.mono hk6.fle, hl5⟩
  ·exact Hk5.out.then_new hgr Hg1.out
end Go.Proofs.YtpcfdngnmigkfaaGreatDoor
