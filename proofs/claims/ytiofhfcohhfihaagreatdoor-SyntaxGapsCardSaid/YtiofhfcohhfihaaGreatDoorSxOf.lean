/- Package syntax, walked: fail, of. -/
import Derived.Test.YtiofhfcohhfihaaGreatDoorSxTake
namespace Go.Proofs.YtiofhfcohhfihaaGreatDoor
open Go.RowKit
set_option linter.unusedVariables false
set_option linter.unusedSimpArgs false

theorem kind_here {ts : List Lx.Tok} {s : Sx.St} {k : Nat} (hk : k ≠ 0) (h : (Sx.peek ts s).kind = k) : s.err = none ∧ s.pos < ts.length := by
  unfold Sx.peek at h
  cases he : s.err with
  | some x => rw [he] at h; exact absurd h.symm hk
  | none =>
    refine ⟨rfl, ?_⟩
    rw [he] at h
    rcases Nat.lt_or_ge s.pos ts.length with h1 | h1
    · exact h1
    · rw [List.getElem?_eq_none h1] at h; exact absurd h.symm hk
theorem Kept.then_new {S : List Nat} {w a b : World} {g : Nat} (h : Kept S w a) (hg : a.grownBy b (some g)) (hge : w.heap.size ≤ g) : Kept S w b :=
  ⟨hg.os.trans h.os, hg.tape.trans h.tape, hg.output.trans h.output, Nat.le_trans h.size hg.size, fun k hk hS => (hg.block k (Nat.lt_of_lt_of_le hk h.size) (fun e => by cases e; omega)).trans (h.block k hk hS)⟩
theorem Blk.same {w : World} {g : Nat} {cs ds : List Value} (h : Blk w g cs) (k : Blk w g ds) : cs = ds := by
  obtain ⟨t, h⟩ := h
  obtain ⟨u, k⟩ := k
  have := h.symm.trans k
  simp only [Option.some.injEq, Obj.cells.injEq] at this
  simpa using congrArg Array.toList this.1
theorem ErrAt.other {A : Nat → Addr} {p g1 : Nat} {w w' : World} {x : Option (Nat × Nat × Nat)} {ev : Value} {cs : List Value} (h : ErrAt A p w x ev) (hB : Blk w g1 cs) (hl : cs.length ≠ 3) (hg : w.grownBy w' (some g1)) : ErrAt A p w' x ev := by
  cases x with
  | none => exact h
  | some x =>
    obtain ⟨g, e, hb, hne⟩ := h
    refine ⟨g, e, hb.grown hg (fun e => ?_), hne⟩
    cases e
    exact hl (by rw [hB.same hb.blk]; rfl)
/-- a row of the call's own grows -/
theorem ErrAt.row {A : Nat → Addr} {p : Nat} {w w' : World} {x : Option (Nat × Nat × Nat)} {ev : Value} {base : Nat} {e : TypeId} {size n : Nat} {v : Value} {xs : List Value} (h : ErrAt A p w x ev) (ho : w.ownsRow base e size v n xs) (hne : e ≠ 82) (hg : w.grownBy w' v.ownBlock) : ErrAt A p w' x ev := by
  cases x with
  | none => exact h
  | some x =>
    obtain ⟨g, e', hb, hnp⟩ := h
    refine ⟨g, e', hb.grown hg (fun e2 => ?_), hnp⟩
    rcases ho.2 with ⟨rfl, _⟩ | ⟨g', cap', cur', rfl, _, hg', _⟩
    · cases e2
    · cases e2
      rw [show w.heap[g']? = _ from hb] at hg'
      cases hg'
      exact hne rfl

set_option maxHeartbeats 2000000 in
set_option maxRecDepth 100000 in
theorem fail_any (A : Nat → Addr) (p : Nat) (v : Value) (ts : List Lx.Tok) (s : Sx.St) (w : World) (hv : Vars A w) (h : Par A p v ts s w) :
    Calls Tryz.prog 40 #[.pointer (some ⟨p, 0, none⟩)] w fun e w' => e = .returned (.tuple #[]) ∧ Par A p v ts (Sx.fail ts s) w' ∧ Kept [p] w w' := by
  have HP := Lib.hid (peek_any A p v ts s w h)
  have Hp := Lib.hid h
  have Hv := Lib.hid hv
  obtain ⟨ev, hB, hE, hF, hl⟩ := h
  have c2 : w.cell? ⟨p, 2, none⟩ = some ev := hB.cell (o := 2) rfl
  clear hB hF hl hv
  unfold Sx.fail
  cases he : s.err with
  | some x =>
    rw [he] at hE
    obtain ⟨g, rfl, _, _⟩ := hE
    simp only [Option.isSome_some, if_true]
    clear he
    go_enter Tryz.func40, Tryz.ntmps40
    go_wp2_with fail
    go_end0
    exact ⟨rfl, Hp.out, Kept.refl _ _⟩
  | none =>
    rw [he] at hE
    have hE : ev = .nilIface := hE
    subst hE
    simp only [Option.isSome_none, Bool.false_eq_true, if_false]
    have He := Lib.hid he
    generalize Sx.peek ts s = x at *
    clear he
    go_enter Tryz.func40, Tryz.ntmps40
    go_upto_region 2 with (first
      | (go_at_call 74; (with_reducible refine HP.out.mono ?_); rintro e w1 ⟨rfl, hb1⟩)
      | (refine wpList_alloc_lay rfl 35 rfl zT zeroT ?_; (intro w3 g3 hg3 hB3 hb3))
      | (refine wpList_store_all rfl 35 _ _ rfl g3 (tC x) rfl rfl zT hB3 infoT rfl (one_tC x) ?_; (intro w4 hB4 hgr; have Hb4 := Lib.hid (hb1.trans ((Below.grown hb3 hgr hb3.size (fun _ e => by cases e; exact hg3)).mono hb1.size)); clear hgr hB3 hb3)))
    have d3 : w4.cell? ⟨g3, 3, none⟩ = some (.int .i64 x.line) := hB4.cell (o := 3) rfl
    have d4 : w4.cell? ⟨g3, 4, none⟩ = some (.int .i64 x.col) := hB4.cell (o := 4) rfl
    have hform := (Hv.out.below Hb4.out).form
    obtain ⟨ev4, hB5, hE5, hF5, hl5⟩ := Hp.out.below Hb4.out
    rw [He.out] at hE5
    have hE5 : ev4 = .nilIface := hE5
    subst hE5
    have Hlt := Lib.hid hB5.lt
    have HF5 := Lib.hid hF5; have Hl5 := Lib.hid hl5
    unfold errV at hform
    clear hB4 hF5 hl5 c2
    go_simp
    go_wp2_with (first
      | (refine wpList_box_layT rfl 82 _ rfl [.int .i64 x.line, .int .i64 x.col, .iface 264 (.pointer (some (A 8)))] rfl ?_; (intro w6 g6 hg6 hB6 hb6; have HBp := hB5.below hb6 hB5.lt; clear hB5))
      | (refine wpList_store_blk1 rfl 25 (.tmp 20) (.tmp 18) rfl p 2 (.iface 80 (.pointer (some ⟨g6, 0, none⟩))) rfl rfl _ HBp rfl ?_ rfl ?_; (· show 2 + 1 ≤ 3; decide); (intro w7 hB7 hgr hsz)))
    have hne : g6 ≠ p := fun e => by have := Hlt.out; omega
    have hk6 : Kept [p] w w6 := (Kept.of_below Hb4.out).trans (Kept.of_below hb6)
    go_end0
    refine ⟨rfl, ⟨_, hB7, ⟨g6, rfl, hB6.grown hgr (fun e => hne (Option.some.inj e)), hne⟩, flat_grown (HF5.out.mono (belowE hb6 (fun k hk => .inl hk))) hgr, Hl5.out⟩, hk6.trans (Kept.of_grown hgr (by simp))⟩

set_option maxHeartbeats 4000000 in
set_option maxRecDepth 100000 in
theorem of_any (A : Nat → Addr) (p k : Nat) (hk : k ≠ 0) (v : Value) (ts : List Lx.Tok) (s : Sx.St) (w : World) (hv : Vars A w) (h : Par A p v ts s w) :
    Calls Tryz.prog 75 #[.pointer (some ⟨p, 0, none⟩), .int .i64 k] w fun e w' => e = .returned (.agg (tC (Sx.of ts k s).1).toArray) ∧ Par A p v ts (Sx.of ts k s).2 w' ∧ Kept [p] w w' := by
  have Hp := Lib.hid h
  have Hv := Lib.hid hv
  have HK := Lib.hid (fun e => kind_here (ts := ts) (s := s) hk e)
  have Hplt := Lib.hid h.lt
  obtain ⟨ev0, hB0, hE0, hF0, hl0⟩ := h
  have HE0 := Lib.hid hE0; have HF0 := Lib.hid hF0
  clear hE0 hF0 hl0
  have HP := Lib.hid (fun w0 (h0 : Par A p v ts s w0) => peek_any A p v ts s w0 h0)
  have HFl := Lib.hid (fun w0 (v0 : Vars A w0) (h0 : Par A p v ts s w0) => fail_any A p v ts s w0 v0 h0)
  clear hv
  unfold Sx.of
  generalize Sx.peek ts s = x at *
  by_cases hkk : x.kind = k
  · rw [if_pos hkk]
    obtain ⟨he, hpl⟩ := HK.out hkk
    have hz : ((x.kind : Int) == (k : Int)) = true := by rw [hkk]; exact beq_self_eq_true _
    clear HK hkk HFl
    go_enter Tryz.func75, Tryz.ntmps75
    go_upto_region 1 with (refine wpList_alloc_lay rfl 35 rfl zT zeroT ?_; (intro w1 g1 hg1 hB1 hb1))
    have HB1 := Lib.hid hB1; have Hb1 := Lib.hid hb1; have Hg1 := Lib.hid hg1
    have HP1 := Lib.hid (HP.out w1 (Hp.out.below hb1))
    clear hB1 hb1 hg1
    go_upto_region 2 with (first
      | (go_at_call 74; (with_reducible refine HP1.out.mono ?_); rintro e w2 ⟨rfl, hb2⟩; have HB2 := Lib.hid (HB1.out.below hb2 HB1.out.lt); have Hb2 := Lib.hid (Hb1.out.trans (hb2.mono Hb1.out.size)); clear hb2)
      | (refine wpList_alloc_lay rfl 35 rfl zT zeroT ?_; (intro w3 g3 hg3 hB3 hb3; have HB13 := Lib.hid (HB2.out.below hb3 HB2.out.lt); have Hb3 := Lib.hid (Hb2.out.trans (hb3.mono Hb2.out.size)); have Hg3 := Lib.hid (Nat.le_trans Hb2.out.size hg3); have hne := Lib.hid (show g1 ≠ g3 from fun e => by have := HB2.out.lt; omega); clear hb3 hg3))
      | (refine wpList_store_all rfl 35 _ _ rfl g3 (tC x) rfl rfl zT hB3 infoT rfl (one_tC x) ?_; (intro w4 hB4 hgr; have HB14 := Lib.hid (HB13.out.grown hgr (fun e => hne.out (Option.some.inj e))); have Hb4 := Lib.hid (Below.grown Hb3.out hgr Hb3.out.size (fun _ e => by cases e; exact Hg3.out)); clear hgr hB3)))
    have c0 : w4.cell? ⟨g3, 0, none⟩ = some (.int .i64 x.kind) := hB4.cell (o := 0) rfl
    have hBp := hB0.below Hb4.out hB0.lt
    have c1 : w4.cell? ⟨p, 1, none⟩ = some (.int .i64 (s.pos : Nat)) := hBp.cell (o := 1) rfl
    have f1 := hBp.frozen 1
    have HBp := Lib.hid hBp; have HB4 := Lib.hid hB4
    have np3 : g3 ≠ p := fun e => by have := Hplt.out; have := Hg3.out; omega
    have np1 : g1 ≠ p := fun e => by have := Hplt.out; have := Hg1.out; omega
    have Np3 := Lib.hid np3; have Np1 := Lib.hid np1
    clear hBp hB4 np3 np1 hB0
    have hcm2 : s.pos + 1 ≤ 9223372036854775807 := by
      obtain ⟨_, _, _, h1, h2, _⟩ := HF0.out.len
      unfold maxLen at h2; omega
    go_simp
    go_upto_region 6 with fail
    generalize hW : w4.setCell ⟨p, 1, none⟩ (.int .i64 ((s.pos : Int) + 1)) = w5
    have hg : w4.grownBy w5 (some p) := by rw [← hW]; exact grown_setCell _ _ _
    have hBp5 : Hid (Blk w5 p [v, .int .i64 ((s.pos + 1 : Nat) : Int), ev0]) := Lib.hid (by rw [← hW]; exact HBp.out.setCell (o := 1) _)
    have HB15 := HB14.out.grown hg (fun e => Np1.out (Option.some.inj e))
    have r9 : w5.rangeAt g3 0 (tC x) := (HB4.out.grown hg (fun e => Np3.out (Option.some.inj e))).whole
    have Hk5 : Hid (Kept [p] w w5) := Lib.hid ((Kept.of_below Hb4.out).trans (Kept.of_grown hg (by simp)))
    have Hsz := Lib.hid hg.size
    clear hW hg c0 c1 f1
    go_wp2_with (first
      | (refine wpList_load_seg rfl 35 _ rfl _ _ rfl _ _ r9 Tryz.underlying35 rfl infoT ?_)
      | (refine wpList_store_all rfl 35 _ _ rfl g1 (tC x) rfl rfl zT HB15 infoT rfl (one_tC x) ?_; (intro w6 hB6 hgr; clear r9)))
    refine bodyPost_ret (v := .agg (tC x).toArray) ?_ rfl ⟨rfl, ?_, ?_⟩
    · exact results_blk (p := 4) (ty := 35) rfl _ _ g1 (tC x) rfl hB6 _ Tryz.underlying35 rfl infoT
    · have hk6 := Hk5.out.then_new hgr Hg1.out
      exact ⟨ev0, hBp5.out.grown hgr (fun e => Np1.out (Option.some.inj e).symm), HE0.out.kept hk6 (fun k hk _ => by simpa using hk), HF0.out.mono hk6.fle, hpl⟩
    · exact Hk5.out.then_new hgr Hg1.out
  · rw [if_neg hkk]
    have hz : ¬ (x.kind : Int) = (k : Int) := by omega
    have hz2 : ((x.kind : Int) == (k : Int)) = false := beq_eq_false_iff_ne.2 hz
    clear HK hkk hB0
    go_enter Tryz.func75, Tryz.ntmps75
    go_upto_region 1 with (refine wpList_alloc_lay rfl 35 rfl zT zeroT ?_; (intro w1 g1 hg1 hB1 hb1))
    have HB1 := Lib.hid hB1; have Hb1 := Lib.hid hb1; have Hg1 := Lib.hid hg1
    have HP1 := Lib.hid (HP.out w1 (Hp.out.below hb1))
    clear hB1 hb1 hg1
    go_upto_region 2 with (first
      | (go_at_call 74; (with_reducible refine HP1.out.mono ?_); rintro e w2 ⟨rfl, hb2⟩; have HB2 := Lib.hid (HB1.out.below hb2 HB1.out.lt); have Hb2 := Lib.hid (Hb1.out.trans (hb2.mono Hb1.out.size)); clear hb2)
      | (refine wpList_alloc_lay rfl 35 rfl zT zeroT ?_; (intro w3 g3 hg3 hB3 hb3; have HB13 := Lib.hid (HB2.out.below hb3 HB2.out.lt); have Hb3 := Lib.hid (Hb2.out.trans (hb3.mono Hb2.out.size)); have Hg3 := Lib.hid (Nat.le_trans Hb2.out.size hg3); have hne := Lib.hid (show g1 ≠ g3 from fun e => by have := HB2.out.lt; omega); clear hb3 hg3))
      | (refine wpList_store_all rfl 35 _ _ rfl g3 (tC x) rfl rfl zT hB3 infoT rfl (one_tC x) ?_; (intro w4 hB4 hgr; have HB14 := Lib.hid (HB13.out.grown hgr (fun e => hne.out (Option.some.inj e))); have Hb4 := Lib.hid (Below.grown Hb3.out hgr Hb3.out.size (fun _ e => by cases e; exact Hg3.out)); clear hgr hB3)))
    have c0 : w4.cell? ⟨g3, 0, none⟩ = some (.int .i64 x.kind) := hB4.cell (o := 0) rfl
    have HF4 := Lib.hid (HFl.out w4 (Hv.out.below Hb4.out) (Hp.out.below Hb4.out))
    have Np1 := Lib.hid (show g1 ≠ p from fun e => by have := Hplt.out; have := Hg1.out; omega)
    clear hB4
    go_simp
    go_wp2_with (first
      | (go_at_call 40; (with_reducible refine HF4.out.mono ?_); rintro e w5 ⟨rfl, hp5, hk5⟩; have HP5 := Lib.hid hp5; have HB15 := hk5.blk HB14.out (by simpa using Np1.out); have Hk5 := Lib.hid ((Kept.of_below Hb4.out).trans hk5); clear hp5 hk5)
      | (refine wpList_store_all rfl 35 _ _ rfl g1 zT rfl rfl zT HB15 infoT rfl ?_ ?_; (· exact one_tok _ _ _ _ _); (intro w6 hB6 hgr)))
    refine bodyPost_ret (v := .agg (tC Sx.zTok).toArray) ?_ rfl ⟨rfl, ?_, ?_⟩
    · exact results_blk (p := 4) (ty := 35) rfl _ _ g1 zT rfl hB6 _ Tryz.underlying35 rfl infoT
    · have hk6 := Hk5.out.then_new hgr Hg1.out
      obtain ⟨ev5, hB5, hE5, _, hl5⟩ := HP5.out
      exact ⟨ev5, hB5.grown hgr (fun e => Np1.out (Option.some.inj e).symm), hE5.other HB15 (by decide) hgr, HF0.out.mono hk6.fle, hl5⟩
    · exact Hk5.out.then_new hgr Hg1.out

end Go.Proofs.YtiofhfcohhfihaaGreatDoor
