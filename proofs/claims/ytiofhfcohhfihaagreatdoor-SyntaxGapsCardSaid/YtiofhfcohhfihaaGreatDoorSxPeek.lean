/- Package syntax, walked: one token: peek. -/
import Derived.Test.YtiofhfcohhfihaaGreatDoorSxKit
import Derived.StillTailTactics
namespace Go.Proofs.YtiofhfcohhfihaaGreatDoor
open Go.RowKit
set_option linter.unusedVariables false
set_option linter.unusedSimpArgs false

theorem sizeTokS (w : World) : (Go.sizeOf (Tryz.prog.elem 23)).run Tryz.prog w = .ok 5 w := by kernel_rfl
set_option maxHeartbeats 2000000 in
set_option maxRecDepth 100000 in
theorem peek_any (A : Nat → Addr) (p : Nat) (v : Value) (ts : List Lx.Tok) (s : Sx.St) (w : World) (h : Par A p v ts s w) :
    Calls Tryz.prog 74 #[.pointer (some ⟨p, 0, none⟩)] w fun e w' => e = .returned (.agg (tC (Sx.peek ts s)).toArray) ∧ Below w.heap.size w w' := by
  obtain ⟨ev, hB, hE, hF, hl⟩ := h
  replace hF := hF.mono (fragE_le _ _)
  have c0 : w.cell? ⟨p, 0, none⟩ = some v := hB.cell (o := 0) rfl
  have c1 : w.cell? ⟨p, 1, none⟩ = some (.int .i64 (s.pos : Nat)) := hB.cell (o := 1) rfl
  have c2 : w.cell? ⟨p, 2, none⟩ = some ev := hB.cell (o := 2) rfl
  have hplt := hB.lt
  clear hB
  obtain ⟨pos, err⟩ := s
  obtain ⟨ad, cap, rfl, hlc, hcm, _⟩ := hF.len
  cases err with
  | some x =>
    obtain ⟨g, rfl, _, _⟩ := hE
    have e : Sx.peek ts ⟨pos, some x⟩ = Sx.zTok := rfl
    rw [e]
    clear e hF
    go_enter Tryz.func74, Tryz.ntmps74
    go_upto_region 1 with (refine wpList_alloc_lay rfl 35 rfl zT zeroT ?_; (intro w3 g3 hg3 hB3 hb3))
    replace c0 := (hb3.cell (p := ⟨p, 0, none⟩) hplt).trans c0
    replace c1 := (hb3.cell (p := ⟨p, 1, none⟩) hplt).trans c1
    replace c2 := (hb3.cell (p := ⟨p, 2, none⟩) hplt).trans c2
    have HB3 := Lib.hid hB3; have Hb3 := Lib.hid hb3; have Hg3 := Lib.hid hg3
    clear hB3 hb3 hg3
    go_simp
    go_quiet (fail)
    generalize hW : w3.drewN nq = w4
    have hB4 : Blk w4 g3 zT := by rw [← hW]; exact HB3.out
    have Hb4 : Hid (Below w.heap.size w w4) := Lib.hid (by rw [← hW]; exact Below.drewN Hb3.out _)
    clear hW c0 c1 c2
    go_wp2_with (first
      | (refine wpList_store_all rfl 35 _ _ rfl g3 _ rfl rfl zT hB4 infoT rfl ?_ ?_; (· exact one_tok _ _ _ _ _); (intro w5 hB5 hgr; have Hb5 := Lib.hid (Below.grown Hb4.out hgr Hb4.out.size (fun _ e => by cases e; exact Hg3.out)); clear hgr)))
    refine bodyPost_ret (v := .agg zT.toArray) ?_ rfl ⟨rfl, Hb5.out⟩
    exact results_blk (p := 2) (ty := 35) rfl _ _ g3 zT rfl hB5 _ Tryz.underlying35 rfl infoT
  | none =>
    have hE : ev = .nilIface := hE
    subst hE
    simp only at hl c1
    by_cases hlt : pos < ts.length
    · have e : Sx.peek ts ⟨pos, none⟩ = ts[pos] := by unfold Sx.peek; simp [hlt]
      rw [e]
      obtain ⟨b, o, hbl, hidx, hcell⟩ := FlatV.at hF tC_len (by decide) (i := pos) hlt Tryz.underlying23 sizeTokS
      obtain ⟨t, ht⟩ : ∃ t, t = ts[pos] := ⟨_, rfl⟩
      rw [← ht] at hcell ⊢
      have d0 : w.cell? ⟨b, o, none⟩ = some (.int .i64 t.kind) := by have := hcell 0 _ rfl; rw [Nat.add_zero] at this; exact this
      have d1 : w.cell? ⟨b, o + 1, none⟩ = some (.string (toB t.text)) := hcell 1 _ rfl
      have d2 : w.cell? ⟨b, o + 2, none⟩ = some (.int .i64 t.num) := hcell 2 _ rfl
      have d3 : w.cell? ⟨b, o + 3, none⟩ = some (.int .i64 t.line) := hcell 3 _ rfl
      have d4 : w.cell? ⟨b, o + 4, none⟩ = some (.int .i64 t.col) := hcell 4 _ rfl
      have hz : (pos : Int) < (ts.length : Int) := by omega
      clear e hF hcell ht
      go_enter Tryz.func74, Tryz.ntmps74
      go_upto_region 1 with (refine wpList_alloc_lay rfl 35 rfl zT zeroT ?_; (intro w3 g3 hg3 hB3 hb3))
      have HB3 := Lib.hid hB3; have Hb3 := Lib.hid hb3; have Hg3 := Lib.hid hg3
      replace c0 := (hb3.cell (p := ⟨p, 0, none⟩) hplt).trans c0
      replace c1 := (hb3.cell (p := ⟨p, 1, none⟩) hplt).trans c1
      replace c2 := (hb3.cell (p := ⟨p, 2, none⟩) hplt).trans c2
      replace d0 := (hb3.cell (p := ⟨b, o, none⟩) hbl).trans d0
      replace d1 := (hb3.cell (p := ⟨b, o + 1, none⟩) hbl).trans d1
      replace d2 := (hb3.cell (p := ⟨b, o + 2, none⟩) hbl).trans d2
      replace d3 := (hb3.cell (p := ⟨b, o + 3, none⟩) hbl).trans d3
      replace d4 := (hb3.cell (p := ⟨b, o + 4, none⟩) hbl).trans d4
      clear hB3 hb3 hg3
      go_simp
      go_quiet (fail)
      generalize hW : w3.drewN nq = w4
      have hB4 : Blk w4 g3 zT := by rw [← hW]; exact HB3.out
      have Hb4 : Hid (Below w.heap.size w w4) := Lib.hid (by rw [← hW]; exact Below.drewN Hb3.out _)
      change (w3.drewN nq).cell? ⟨p, 0, none⟩ = _ at c0
      rw [hW] at c0
      change (w3.drewN nq).cell? ⟨p, 1, none⟩ = _ at c1
      rw [hW] at c1
      change (w3.drewN nq).cell? ⟨b, o, none⟩ = _ at d0
      rw [hW] at d0
      change (w3.drewN nq).cell? ⟨b, o + 1, none⟩ = _ at d1
      rw [hW] at d1
      change (w3.drewN nq).cell? ⟨b, o + 2, none⟩ = _ at d2
      rw [hW] at d2
      change (w3.drewN nq).cell? ⟨b, o + 3, none⟩ = _ at d3
      rw [hW] at d3
      change (w3.drewN nq).cell? ⟨b, o + 4, none⟩ = _ at d4
      rw [hW] at d4
      clear hW c2
      go_wp2_with fail
      refine wp_region_still_tail 10 (by kernel_rfl) (by kernel_rfl) ?_
      simp only [List.take_succ_cons, List.take_zero, List.drop_succ_cons, List.drop_zero]
      repeat still_step
      refine wpStill_nil ?_
      change wpList _ _ _ _ _ w4.drew
      have hB4' : Blk w4.drew g3 zT := hB4
      go_wp2_with (first
        | (refine wpList_store_all rfl 35 _ _ rfl g3 _ rfl rfl zT hB4' infoT rfl ?_ ?_; (· exact one_tok _ _ _ _ _); (intro w5 hB5 hgr; have Hb5 := Lib.hid (Below.grown Hb4.out.drew hgr Hb4.out.size (fun _ e => by cases e; exact Hg3.out)); clear hgr)))
      refine bodyPost_ret (v := .agg (tC t).toArray) ?_ rfl ⟨rfl, Hb5.out⟩
      exact results_blk (p := 2) (ty := 35) rfl _ _ g3 (tC t) rfl hB5 _ Tryz.underlying35 rfl infoT
    · have e : Sx.peek ts ⟨pos, none⟩ = Sx.zTok := by unfold Sx.peek; simp [hlt]
      rw [e]
      have hz : (ts.length : Int) ≤ (pos : Int) := by omega
      clear e hF
      go_enter Tryz.func74, Tryz.ntmps74
      go_upto_region 1 with (refine wpList_alloc_lay rfl 35 rfl zT zeroT ?_; (intro w3 g3 hg3 hB3 hb3))
      replace c0 := (hb3.cell (p := ⟨p, 0, none⟩) hplt).trans c0
      replace c1 := (hb3.cell (p := ⟨p, 1, none⟩) hplt).trans c1
      replace c2 := (hb3.cell (p := ⟨p, 2, none⟩) hplt).trans c2
      have HB3 := Lib.hid hB3; have Hb3 := Lib.hid hb3; have Hg3 := Lib.hid hg3
      clear hB3 hb3 hg3
      go_simp
      go_quiet (fail)
      generalize hW : w3.drewN nq = w4
      have hB4 : Blk w4 g3 zT := by rw [← hW]; exact HB3.out
      have Hb4 : Hid (Below w.heap.size w w4) := Lib.hid (by rw [← hW]; exact Below.drewN Hb3.out _)
      clear hW c0 c1 c2
      go_wp2_with (first
        | (refine wpList_store_all rfl 35 _ _ rfl g3 _ rfl rfl zT hB4 infoT rfl ?_ ?_; (· exact one_tok _ _ _ _ _); (intro w5 hB5 hgr; have Hb5 := Lib.hid (Below.grown Hb4.out hgr Hb4.out.size (fun _ e => by cases e; exact Hg3.out)); clear hgr)))
      refine bodyPost_ret (v := .agg zT.toArray) ?_ rfl ⟨rfl, Hb5.out⟩
      exact results_blk (p := 2) (ty := 35) rfl _ _ g3 zT rfl hB5 _ Tryz.underlying35 rfl infoT

end Go.Proofs.YtiofhfcohhfihaaGreatDoor
