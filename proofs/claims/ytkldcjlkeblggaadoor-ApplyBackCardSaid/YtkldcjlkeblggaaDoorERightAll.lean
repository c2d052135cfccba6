/- edit.Right, walked. -/
import Derived.Test.YtkldcjlkeblggaaDoorEKeys
namespace Go.Proofs.YtkldcjlkeblggaaDoor
open Go.RowKit
open Val (V E cmp right noneV partB bareE eright esome stepRight esm esmF esmS esmK efields esteps ekeys v0)
set_option linter.unusedVariables false

def Val.sameB (a b : V) : Bool := decide (cmp a b = 0)
def Val.ekeysAll (ks : List (V × E)) : Bool := decide (0 < ks.length) && ekeys none ks
theorem Val.eright_all (x : E) : eright x = (x.bare && (if x.kind = 0 then true else if x.kind = 1 then right x.old && (right x.new && !Val.sameB x.old x.new) else if x.kind = 2 then Val.efieldsAll x else
    if x.kind = 3 then esteps 0 false x.steps else if x.kind = 4 then Val.ekeysAll x.keys else false)) := by
  cases x
  rw [eright]; rfl

set_option maxRecDepth 100000 in
set_option maxHeartbeats 2000000 in
theorem eright_step (N : Nat) (ih : ERightAt N) : ERightAt (N + 1) := by
  intro x xc w hs hz hx
  have hsz := esm_sum hz
  have HR := Lib.hid (fun (wx : World) (hb : Below w.heap.size w wx) => ebare_any x xc wx (hx.mono (below_le hb)) hsz)
  have HF := Lib.hid (fun (wx : World) (hb : Below w.heap.size w wx) => efields_at N ih x xc wx (fun e he => by have := Val.esize_field (x := x) (m := e.1) (e := e.2) he; omega) hz (hx.mono (below_le hb)))
  have HL := Lib.hid hx.shape.len
  have Hp := Lib.hid (Val.eright_all x)
  obtain ⟨k, o, n, f, r, ro, rn, s, ks⟩ := x
  rw [esm] at hz
  rw [ER] at hx
  obtain ⟨oc, nc, fv, sv, kv, fe, se, ke, hxc, _, ⟨h3, h4⟩, ⟨h5, h6, h7⟩, h8, h9, h10⟩ := hx
  have HS := Lib.hid (fun (wx : World) (hb : Below w.heap.size w wx) => esteps_at N ih s se sv wx (fun e he => by have := Val.esize_step (x := .mk k o n f r ro rn s ks) (k := e.1) (c := e.2.1) (v := e.2.2.1) (e := e.2.2.2) he; omega) hz.2.2.1 (h6.mono (below_le hb)) (h9.mono (below_le hb)))
  have hK : ∀ (wx : World), Below w.heap.size w wx → Calls Tryd.prog 31 #[kv] wx fun e w' => e = .returned (.bool (Val.ekeysAll ks)) ∧ Below wx.heap.size wx w' := (fun (wx : World) (hb : Below w.heap.size w wx) => ekeys_at N ih ks ke kv wx (fun e he => by have := Val.esize_key (x := .mk k o n f r ro rn s ks) (k := e.1) (e := e.2) he; omega) hz.2.2.2 (h7.mono (below_le hb)) (h10.mono (below_le hb)))
  have HVo := Lib.hid (fun (wx : World) (hb : Below w.heap.size w wx) => right_any o oc wx (h3.mono (below_le hb)))
  have HVn := Lib.hid (fun (wx : World) (hb : Below w.heap.size w wx) => right_any n nc wx (h4.mono (below_le hb)))
  have hVs : ∀ (wx : World), Below w.heap.size w wx → Calls Tryd.prog 9 #[.agg oc.toArray, .agg nc.toArray] wx fun e w' => e = .returned (.bool (Val.sameB o n)) ∧ Below wx.heap.size wx w' := (fun (wx : World) (hb : Below w.heap.size w wx) => same_any o n oc nc wx (h3.mono (below_le hb)) (h4.mono (below_le hb)))
  have HLo := Lib.hid h3.len
  have HK := Lib.hid hK; have HVs := Lib.hid hVs
  have HLn := Lib.hid h4.len
  obtain ⟨a1, c1, rfl, _⟩ := h5.len
  obtain ⟨a2, c2, rfl, _⟩ := h6.len
  obtain ⟨a3, c3, rfl, _⟩ := h7.len
  have HA := Lib.hid (fun (w2 : World) (g : Nat) (hB : Blk w2 g xc) => EdAt.of h3.len h4.len (hxc ▸ hB))
  have HW := Lib.hid (fun (w2 : World) (g : Nat) (hB : Blk w2 g xc) => hB.whole)
  clear hxc h3 h4 h5 h6 h7 h8 h9 h10 hsz hs hz ih hK hVs
  simp only [Val.E.kind, Val.E.old, Val.E.new, Val.E.steps, Val.E.keys] at Hp
  generalize (E.mk k o n f r ro rn s ks).bare = bb at *
  generalize right o = p1 at *
  generalize right n = p2 at *
  generalize Val.sameB o n = cm at *
  generalize Val.efieldsAll (E.mk k o n f r ro rn s ks) = p4 at *
  generalize esteps 0 false s = p5 at *
  generalize Val.ekeysAll ks = p6 at *
  go_enter Tryd.func15, Tryd.ntmps15
  go_wp2_with (first
    | (refine wpList_box_lay rfl _ _ rfl _ rfl ?_; (intro w0 g hg hB0 hb0; obtain ⟨r1, r8, q0, q15, q16, q17, q18, q19, q20⟩ := HA.out w0 g hB0; have r0 := HW.out w0 g hB0; have hz0 := hB0.lt))
    | (refine wpList_load_seg rfl 32 _ rfl _ _ rfl _ _ (by assumption) Tryd.underlying32 rfl ?_ ?_; (· exact infoE.trans (congrArg some HL.out.symm)))
    | (refine wpList_load_seg rfl 27 _ rfl _ _ rfl _ _ (by assumption) Tryd.underlying27 rfl ?_ ?_; (· first | exact infoV.trans (congrArg some HLo.out.symm) | exact infoV.trans (congrArg some HLn.out.symm)))
    | (go_at_call 28; refine (HR.out _ (by assumption)).mono ?_; rintro e w1 ⟨rfl, hb1⟩; replace hb0 := hb0.trans (hb1.mono hb0.size); replace hB0 := hB0.below hb1 hz0; replace hz0 := hB0.lt; clear hb1 r0 r1 r8 q0 q15 q16 q17 q18 q19 q20; obtain ⟨r1, r8, q0, q15, q16, q17, q18, q19, q20⟩ := HA.out _ _ hB0; have r0 := HW.out _ _ hB0)
    | (go_at_call 11; (first | (with_reducible refine (HVo.out _ (by assumption)).mono ?_) | (with_reducible refine (HVn.out _ (by assumption)).mono ?_)); rintro e w1 ⟨rfl, hb1⟩; replace hb0 := hb0.trans (hb1.mono hb0.size); replace hB0 := hB0.below hb1 hz0; replace hz0 := hB0.lt; clear hb1 r0 r1 r8 q0 q15 q16 q17 q18 q19 q20; obtain ⟨r1, r8, q0, q15, q16, q17, q18, q19, q20⟩ := HA.out _ _ hB0; have r0 := HW.out _ _ hB0)
    | (go_at_call 9; refine (HVs.out _ (by assumption)).mono ?_; rintro e w1 ⟨rfl, hb1⟩; replace hb0 := hb0.trans (hb1.mono hb0.size); clear hb1)
    | (go_at_call 29; refine (HF.out _ (by assumption)).mono ?_; rintro e w1 ⟨rfl, hb1⟩; replace hb0 := hb0.trans (hb1.mono hb0.size); clear hb1)
    | (go_at_call 30; refine (HS.out _ (by assumption)).mono ?_; rintro e w1 ⟨rfl, hb1⟩; replace hb0 := hb0.trans (hb1.mono hb0.size); clear hb1)
    | (go_at_call 31; refine (HK.out _ (by assumption)).mono ?_; rintro e w1 ⟨rfl, hb1⟩; replace hb0 := hb0.trans (hb1.mono hb0.size); clear hb1))
  all_goals
    go_ret
    refine ⟨ret_bool ?_, hb0⟩
    rw [Hp.out]
    clear HR HF HS HK HVo HVn HVs HA HW Hp hb0 HL HLo HLn
    clear hB0 hz0 hg
    simp_all

theorem eright_all : ∀ N, ERightAt N
  | 0 => fun x xc w hs => absurd hs (Nat.not_lt_zero _)
  | N + 1 => eright_step N (eright_all N)
theorem eright_any (x : E) (xc : List Value) (w : World) (hz : esm x) (hx : ER (frag w) x xc) :
    Calls Tryd.prog 15 #[.agg xc.toArray] w fun e w' => e = .returned (.bool (eright x)) ∧ Below w.heap.size w w' :=
  eright_all _ x xc w (Nat.lt_succ_self _) hz hx

end Go.Proofs.YtkldcjlkeblggaaDoor
