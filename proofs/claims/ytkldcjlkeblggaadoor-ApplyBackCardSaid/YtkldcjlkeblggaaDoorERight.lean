/- edit.some, Step.right, walked. -/
import Derived.Test.YtkldcjlkeblggaaDoorEBare
namespace Go.Proofs.YtkldcjlkeblggaaDoor
open Go.RowKit
open Val (V E cmp right noneV partB bareE eright esome stepRight esm v0)
set_option linter.unusedVariables false

theorem ER.k0 {h : Frag} {x : E} {xc : List Value} (hx : ER h x xc) : xc[0]? = some (.int .i64 x.kind) := by
  cases x
  rw [ER] at hx
  obtain ⟨oc, nc, fv, sv, kv, fe, se, ke, rfl, _⟩ := hx
  rfl
theorem esm_sum {x : E} (h : esm x) : x.ro.size + x.rn.size ≤ 9223372036854775807 := by
  cases x
  rw [esm] at h
  simp only [Val.E.ro, Val.E.rn]; omega
/-- how far the proof has come: edits of a size below N -/
def ERightAt (N : Nat) : Prop := ∀ (x : E) (xc : List Value) (w : World), SizeOf.sizeOf x < N → esm x → ER (frag w) x xc →
  Calls Tryd.prog 15 #[.agg xc.toArray] w fun e w' => e = .returned (.bool (eright x)) ∧ Below w.heap.size w w'

set_option maxRecDepth 100000 in
set_option maxHeartbeats 1000000 in
theorem some_at (N : Nat) (ih : ERightAt N) (x : E) (xc : List Value) (w : World) (hs : SizeOf.sizeOf x < N) (hz : esm x) (hx : ER (frag w) x xc) :
    Calls Tryd.prog 50 #[.agg xc.toArray] w fun e w' => e = .returned (.bool (esome x)) ∧ Below w.heap.size w w' := by
  have HI := Lib.hid (fun (wx : World) (hb : Below w.heap.size w wx) => ih x xc wx hs hz (hx.mono (below_le hb)))
  have HL := Lib.hid hx.shape.len
  have HS := Lib.hid (fun (w2 : World) (g : Nat) (hB : Blk w2 g xc) => And.intro (hB.cell hx.k0) hB.whole)
  have hE : esome x = (decide (x.kind ≠ 0) && eright x) := rfl
  have HE := Lib.hid hE
  clear hx hE hz
  generalize x.kind = k at *
  generalize eright x = rx at *
  go_enter Tryd.func50, Tryd.ntmps50
  go_wp2_with (first
    | (refine wpList_box_lay rfl _ _ rfl _ rfl ?_; (intro w0 g hg hB0 hb0; obtain ⟨q0, r0⟩ := HS.out w0 g hB0; clear hB0))
    | (refine wpList_load_seg rfl 32 _ rfl _ _ rfl _ _ (by assumption) Tryd.underlying32 rfl ?_ ?_; (· exact infoE.trans (congrArg some HL.out.symm)))
    | (go_at_call 15; refine (HI.out _ (by assumption)).mono ?_; rintro e w1 ⟨rfl, hb1⟩; replace hb0 := hb0.trans (hb1.mono hb0.size); clear hb1 q0 r0))
  all_goals
    go_ret
    refine ⟨ret_bool ?_, hb0⟩
    rw [HE.out]
    simp [*]

/-- what is read off a step's block -/
structure StAt (w : World) (g : Nat) (k c e : Int) (vc xc : List Value) : Prop where
  c0 : w.cell? ⟨g, 0, none⟩ = some (.int .i64 k)
  c1 : w.cell? ⟨g, 1, none⟩ = some (.int .i64 c)
  c9 : w.cell? ⟨g, 9, none⟩ = some (.int .i64 e)
  r2 : w.rangeAt g 2 vc
  r9 : w.rangeAt g 9 xc
theorem StAt.of {w : World} {g : Nat} {k c e : Int} {vc xc : List Value} (lv : vc.length = 7) (h0 : xc[0]? = some (.int .i64 e)) (h : Blk w g (.int .i64 k :: .int .i64 c :: (vc ++ xc))) : StAt w g k c e vc xc := by
  have r9 : w.rangeAt g 9 xc := h.range (p := .int .i64 k :: .int .i64 c :: vc) (q := xc) (r := []) (by simp) (by simp [lv])
  exact ⟨h.cell rfl, h.cell rfl, r9 0 _ h0, h.range (p := [.int .i64 k, .int .i64 c]) (q := vc) rfl rfl, r9⟩

set_option maxRecDepth 100000 in
set_option maxHeartbeats 2000000 in
theorem step_at (N : Nat) (ih : ERightAt N) (k c : Int) (v : V) (x : E) (vc xc : List Value) (w : World) (hs : SizeOf.sizeOf x < N) (hz : esm x) (hv : VR (frag w) v vc) (hx : ER (frag w) x xc) :
    Calls Tryd.prog 51 #[.agg (Value.int .i64 k :: .int .i64 c :: (vc ++ xc)).toArray] w fun e w' => e = .returned (.bool (stepRight k c v x)) ∧ Below w.heap.size w w' := by
  have HI := Lib.hid (fun (wx : World) (hb : Below w.heap.size w wx) => some_at N ih x xc wx hs hz (hx.mono (below_le hb)))
  have HR := Lib.hid (fun (wx : World) (hb : Below w.heap.size w wx) => ebare_any x xc wx (hx.mono (below_le hb)) (esm_sum hz))
  have HN := Lib.hid (fun (wx : World) (hb : Below w.heap.size w wx) => enone_any v vc wx (hv.mono (below_le hb)))
  have HP := Lib.hid (fun (wx : World) (hb : Below w.heap.size w wx) => epart_any v vc wx (hv.mono (below_le hb)))
  have HL := Lib.hid hx.shape.len
  have HLv := Lib.hid hv.len
  have HS := Lib.hid (fun (w2 : World) (g : Nat) (hB : Blk w2 g (.int .i64 k :: .int .i64 c :: (vc ++ xc))) => StAt.of hv.len hx.k0 hB)
  have hE : stepRight k c v x = if k = 1 then decide (1 ≤ c ∧ c ≤ 1048576) && (noneV v && (decide (x.kind = 0) && x.bare)) else
    if k = 2 ∨ k = 3 then decide (c = 0) && (partB v && (decide (x.kind = 0) && x.bare)) else
    if k = 4 then decide (c = 0) && (noneV v && esome x) else false := rfl
  have HE := Lib.hid hE
  clear hx hv hE hz ih
  generalize x.kind = e at *
  generalize x.bare = bb at *
  generalize esome x = sx at *
  generalize noneV v = nv at *
  generalize partB v = pv at *
  go_enter Tryd.func51, Tryd.ntmps51
  go_wp2_with (first
    | (refine wpList_box_lay rfl _ _ rfl _ rfl ?_; (intro w0 g hg hB0 hb0; obtain ⟨q0, q1, q9, r2, r9⟩ := HS.out w0 g hB0; have hz0 := hB0.lt))
    | (refine wpList_load_seg rfl 32 _ rfl _ _ rfl _ _ (by assumption) Tryd.underlying32 rfl ?_ ?_; (· exact infoE.trans (congrArg some HL.out.symm)))
    | (refine wpList_load_seg rfl 27 _ rfl _ _ rfl _ _ (by assumption) Tryd.underlying27 rfl ?_ ?_; (· exact infoV.trans (congrArg some HLv.out.symm)))
    | (go_at_call 28; refine (HR.out _ (by assumption)).mono ?_; rintro e w1 ⟨rfl, hb1⟩; replace hb0 := hb0.trans (hb1.mono hb0.size); replace hB0 := hB0.below hb1 hz0; replace hz0 := hB0.lt; clear hb1 q0 q1 q9 r2 r9; obtain ⟨q0, q1, q9, r2, r9⟩ := HS.out _ _ hB0)
    | (go_at_call 49; refine (HN.out _ (by assumption)).mono ?_; rintro e w1 ⟨rfl, hb1⟩; replace hb0 := hb0.trans (hb1.mono hb0.size); replace hB0 := hB0.below hb1 hz0; replace hz0 := hB0.lt; clear hb1 q0 q1 q9 r2 r9; obtain ⟨q0, q1, q9, r2, r9⟩ := HS.out _ _ hB0)
    | (go_at_call 63; refine (HP.out _ (by assumption)).mono ?_; rintro e w1 ⟨rfl, hb1⟩; replace hb0 := hb0.trans (hb1.mono hb0.size); replace hB0 := hB0.below hb1 hz0; replace hz0 := hB0.lt; clear hb1 q0 q1 q9 r2 r9; obtain ⟨q0, q1, q9, r2, r9⟩ := HS.out _ _ hB0)
    | (go_at_call 50; refine (HI.out _ (by assumption)).mono ?_; rintro e w1 ⟨rfl, hb1⟩; replace hb0 := hb0.trans (hb1.mono hb0.size); clear hb1 q0 q1 q9 r2 r9))
  all_goals
    go_ret
    refine ⟨ret_bool ?_, hb0⟩
    rw [HE.out]
    clear HI HR HN HP HS HE hb0 HL HLv hB0 hz0 hg
    first | (simp_all; done) | (simp_all; omega)

end Go.Proofs.YtkldcjlkeblggaaDoor
