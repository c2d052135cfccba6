/- compose: swapped, apart, rests, of, by the engine. compose: apart, of, rests. -/
import Derived.Test.YtlmbcoecipbblaaGreatDoorEAp3
import Derived.Test.YtlmbcoecipbblaaGreatDoorProg
set_option maxRecDepth 100000
set_option maxHeartbeats 4000000
set_option linter.unusedVariables false
set_option linter.unusedSimpArgs false
namespace Go.Proofs.YtlmbcoecipbblaaGreatDoor
open Go.RowKit
open Val (V E right cmp eright ado Res avalue esm esmF esmS esmK vmx esz eszF eszS eszK e0 swapE swapF PairP inv)
theorem eswapped_run {G : List (Nat × List DV)} {o n : V} {oc nc : List DV} (ho : oc = encV o) (hn : nc = encV n) :
  ∃ c, c = encE (swapE o n) ∧ ∀ fr, PRun Tryz.prog G 64 [.agg (cellsP 7 oc), .agg (cellsP 7 nc)] [] fr (.agg (cellsP 21 c)) [] := by
 refine ⟨_, rfl, fun fr => ?_⟩
 generalize hc : encE (swapE o n) = c
 have HS := fun fr => same_run (G := G) ho hn fr
 refine PRun.pure (xs := [.agg (cellsP 7 oc), .agg (cellsP 7 nc)]) (r1 := .agg (cellsP 21 c)) tI_ok (by kernel_rfl) Tryz.func64 rfl rfl (by kernel_rfl) ?_
 with_reducible refine jR trivial ?_
 (with_reducible apply hCall); exact HS _; with_reducible refine jR trivial ?_
 refine ⟨fun h => ?_, fun h => ?_⟩
 ·have hc' : encE e0 = c := by rw [← hc, swapE, if_pos h]
  with_reducible refine jR trivial ?_
  refine ⟨[], [], [], ?_⟩
  with_reducible refine jR trivial ?_
  subst hc'
  simp only [e0, Val.v0, cE21, cV, eZ, eS]
 ·have hc' : encE (.mk 1 o n [] false ByteArray.empty ByteArray.empty [] []) = c := by rw [← hc, swapE, if_neg h]
  with_reducible refine jR trivial ?_
  refine ⟨[], [], [], ?_⟩
  with_reducible refine jR trivial ?_
  subst hc' ho hn
  simp only [cE21, cV, eZ, eS]
theorem swapped_run (er : Errs) {d e : E} {m : V} {dc ec vc : List DV} (hD : dc = encE d) (hE : ec = encE e) (hM : vc = encV m) (hd : eright d = true) (hdm : esm (inv d)) (hem : esm e) (hb : vmx m + (esz d + esz e) ≤ 90000) :
  ∃ c ev, EEr er (swapF d e m) c ev ∧ ∀ fr, PRun Tryz.prog (gE er) 36 [.agg (cellsP 21 dc), .agg (cellsP 21 ec), .agg (cellsP 7 vc)] [] fr (.tup [.agg (cellsP 21 c), .d fun _ => ev]) [] := by
 have hz := Val.inv_esz d
 obtain ⟨ic, hi, H1⟩ := invof_run (G := gE er) hD hd (show esz d ≤ 90000 by omega)
 obtain ⟨oc, oe, h2, H2⟩ := value_run er hi hM hdm (show vmx m + esz (inv d) ≤ 90000 by omega)
 obtain ⟨nc, ne, h3, H3⟩ := value_run er hE hM hem (show vmx m + esz e ≤ 90000 by omega)
 obtain ⟨b2, q2, y2, n2⟩ := rv_nil h2
 obtain ⟨b3, q3, y3, n3⟩ := rv_nil h3
 obtain ⟨c, ev, HR⟩ := re_ex er (swapF d e m)
 refine ⟨c, ev, HR, fun fr => ?_⟩
 refine PRun.pure (xs := [.agg (cellsP 21 dc), .agg (cellsP 21 ec), .agg (cellsP 7 vc)]) (r1 := .tup [.agg (cellsP 21 c), .d fun _ => ev]) tI_ok (by kernel_rfl) Tryz.func36 rfl rfl (by kernel_rfl) ?_
 with_reducible refine jR trivial ?_
 (with_reducible apply hCall); exact H1 _; with_reducible refine jR trivial ?_
 (with_reducible apply hCall); exact H2 _; with_reducible refine jR q2 ?_
 refine ⟨fun hb2 => ?_, fun hb2 => ?_⟩
 ·obtain ⟨n, hr, _⟩ := y2 hb2
  obtain ⟨hc, hv⟩ : c = zEd ∧ ev = .lit er.c := by rw [swapF, hr] at HR; exact HR
  with_reducible refine jR trivial ?_
  refine ⟨[], [], [], ?_⟩
  with_reducible refine jR trivial ?_
  subst hc hv
  and_intros <;> exact LeD.of rfl
 obtain ⟨o, hr2, ho, _⟩ := n2 hb2
 with_reducible refine jR trivial ?_
 (with_reducible apply hCall); exact H3 _; with_reducible refine jR q3 ?_
 refine ⟨fun hb3 => ?_, fun hb3 => ?_⟩
 ·obtain ⟨n, hr, _⟩ := y3 hb3
  obtain ⟨hc, hv⟩ : c = zEd ∧ ev = .lit er.c := by rw [swapF, hr2] at HR; simp only [hr] at HR; exact HR
  with_reducible refine jR trivial ?_
  refine ⟨[], [], [], ?_⟩
  with_reducible refine jR trivial ?_
  subst hc hv
  and_intros <;> exact LeD.of rfl
 obtain ⟨n, hr3, hn, _⟩ := n3 hb3
 obtain ⟨sc, hs, H4⟩ := eswapped_run (G := gE er) ho hn
 obtain ⟨hc, hv⟩ : c = sc ∧ ev = .lit .nilIface := by rw [swapF, hr2] at HR; simp only [hr3] at HR; exact ⟨HR.1.trans hs.symm, HR.2⟩
 with_reducible refine jR trivial ?_
 (with_reducible apply hCall); exact H4 _; with_reducible refine jR trivial ?_
 refine ⟨[], [], [], ?_⟩
 with_reducible refine jR trivial ?_
 simp only [hc, hv, eS]
theorem v0_as : zVd = (encV Val.v0).map fun x => match x with | .sl [] => .lit (.slice none 0 0) | x => x := rfl
theorem zero_as {N : Nm} {h : Frag} {v : Value} (hp : PVR N h (.agg (cellsP 7 zVd)) v) : PVR N h (.agg (cellsP 7 (encV Val.v0))) v := by
 obtain ⟨ws, rfl, h1⟩ := (cellsP_ok rfl).1 hp
 refine (cellsP_ok (encV_len _)).2 ⟨ws, rfl, ?_⟩
 rw [Val.v0, encV]
 unfold zVd at h1
 simp only [DRs_cons] at h1 ⊢
 obtain ⟨a, _, rfl, ha, b, _, rfl, hb, c, _, rfl, hc, d, _, rfl, hd, e, _, rfl, he, f, _, rfl, hf, g, _, rfl, hg, hn⟩ := h1
 exact ⟨a, _, rfl, ha, b, _, rfl, hb, c, _, rfl, hc, d, _, rfl, by rw [encF]; exact LeD.nil _ _ hd, e, _, rfl, he, f, _, rfl, by rw [encL]; exact LeD.nil _ _ hf, g, _, rfl, by rw [encP]; exact LeD.nil _ _ hg, hn⟩
theorem apart_run (er : Errs) {d e : E} {dc ec : List DV} (hD : dc = encE d) (hE : ec = encE e) (hd : eright d = true) (hdm : esm (inv d)) (hem : esm e) (hb : esz d + esz e ≤ 90000) :
  ∃ c ev, EEr er (swapF d e Val.v0) c ev ∧ ∀ fr, PRun Tryz.prog (gE er) 37 [.agg (cellsP 21 dc), .agg (cellsP 21 ec)] [] fr (.tup [.agg (cellsP 21 c), .d fun _ => ev]) [] := by
 obtain ⟨c, ev, HR, H⟩ := swapped_run er hD hE (rfl : encV Val.v0 = _) hd hdm hem (show vmx Val.v0 + _ ≤ _ by rw [Val.vmx_v0]; omega)
 have H' := fun fr => (H fr).args (args' := [.agg (cellsP 21 dc), .agg (cellsP 21 ec), .agg (cellsP 7 zVd)]) (fun N h vs hp => by
  rw [PVRs] at hp ⊢
  obtain ⟨v, vs, rfl, h1, h2⟩ := hp
  refine ⟨v, vs, rfl, h1, ?_⟩
  rw [PVRs] at h2 ⊢
  obtain ⟨v, vs, rfl, h1, h2⟩ := h2
  refine ⟨v, vs, rfl, h1, ?_⟩
  rw [PVRs] at h2 ⊢
  obtain ⟨v, vs, rfl, h1, h2⟩ := h2
  exact ⟨v, vs, rfl, zero_as h1, h2⟩)
 refine ⟨c, ev, HR, fun fr => ?_⟩
 refine PRun.pure (xs := [.agg (cellsP 21 dc), .agg (cellsP 21 ec)]) (r1 := .tup [.agg (cellsP 21 c), .d fun _ => ev]) tI_ok (by kernel_rfl) Tryz.func37 rfl rfl (by kernel_rfl) ?_
 with_reducible refine jR trivial ?_
 (with_reducible apply hCall); exact H' _; with_reducible refine jR trivial ?_
 refine ⟨[], [], [], ?_⟩
 with_reducible refine jR trivial ?_
 trivial
theorem of_run {G : List (Nat × List DV)} (k : Int) (fr : List Nat) : PRun Tryz.prog G 38 [.d fun _ => .lit (.int .i64 k)] [] fr (.fn (.func (if k = 2 then 65 else if k = 3 then 66 else 67)) [] []) [] := by
 generalize hr : (if k = 2 then 65 else if k = 3 then 66 else 67) = r
 refine PRun.pure (xs := [.d fun _ => .lit (.int .i64 k)]) (r1 := .fn (.func r) [] []) tI_ok (by kernel_rfl) Tryz.func38 rfl rfl (by kernel_rfl) ?_
 with_reducible refine jR trivial ?_
 refine ⟨fun h2 => ?_, fun h2 => ?_⟩
 ·obtain rfl : r = 65 := by rw [← hr, if_pos h2]
  with_reducible refine jR trivial ?_
  refine ⟨[], [], [], ?_⟩
  with_reducible refine jR trivial ?_
  trivial
 with_reducible refine jR trivial ?_
 refine ⟨fun h3 => ?_, fun h3 => ?_⟩
 ·obtain rfl : r = 66 := by rw [← hr, if_neg h2, if_pos h3]
  with_reducible refine jR trivial ?_
  refine ⟨[], [], [], ?_⟩
  with_reducible refine jR trivial ?_
  trivial
 ·obtain rfl : r = 67 := by rw [← hr, if_neg h2, if_neg h3]
  with_reducible refine jR trivial ?_
  refine ⟨[], [], [], ?_⟩
  with_reducible refine jR trivial ?_
  trivial
def Val.setR (x : E) (r : Bool) (ro rn : ByteArray) : E := .mk x.kind x.old x.new x.fields r ro rn x.steps x.keys
def Val.restsFin (x : E) (ro rn : ByteArray) : E := if ro = rn then Val.setR x false ByteArray.empty ByteArray.empty else Val.setR x true ro rn
def Val.restsF (d e x : E) : Res E :=
 if d.rests = true ∧ e.rests = true then if d.rn = e.ro then .ok (Val.restsFin x d.ro e.rn) else .bad 13
 else if d.rests = true then .ok (Val.restsFin x d.ro d.rn)
 else if e.rests = true then .ok (Val.restsFin x e.ro e.rn)
 else .ok (Val.restsFin x x.ro x.rn)
theorem rests_run (er : Errs) {d e x : E} {dc ec xc : List DV} (hD : dc = encE d) (hE : ec = encE e) (hX : xc = encE x) :
  ∃ c ev, EEr er (Val.restsF d e x) c ev ∧ ∀ fr, PRun Tryz.prog (gE er) 81 [.agg (cellsP 21 dc), .agg (cellsP 21 ec), .agg (cellsP 21 xc)] [] fr (.tup [.agg (cellsP 21 c), .d fun _ => ev]) [] := by
 obtain ⟨c, ev, HR⟩ := re_ex er (Val.restsF d e x)
 refine ⟨c, ev, HR, fun fr => ?_⟩
 have D := cE21 d; rw [← hD] at D
 have E := cE21 e; rw [← hE] at E
 have X := cE21 x; rw [← hX] at X
 obtain ⟨_, _, _, _, _, _, _, _, _, _, _, _, _, _, _, _, d16, d17, d18, _⟩ := D
 obtain ⟨_, _, _, _, _, _, _, _, _, _, _, _, _, _, _, _, e16, e17, e18, _⟩ := E
 obtain ⟨x0, x1, x2, x3, x4, x5, x6, x7, x8, x9, x10, x11, x12, x13, x14, x15, x16, x17, x18, x19, x20⟩ := X
 have hend : ∀ ro rn, Val.restsF d e x = .ok (Val.restsFin x ro rn) → ((ro = rn → EEr er (.ok (.mk x.kind x.old x.new x.fields false ByteArray.empty ByteArray.empty x.steps x.keys)) c ev) ∧ (¬ ro = rn → EEr er (.ok (.mk x.kind x.old x.new x.fields true ro rn x.steps x.keys)) c ev)) := fun ro rn h => by
  rw [h] at HR
  exact ⟨fun e => (by rw [Val.restsFin, if_pos e] at HR; exact HR), fun e => (by rw [Val.restsFin, if_neg e] at HR; exact HR)⟩
 refine PRun.pure (xs := [.agg (cellsP 21 dc), .agg (cellsP 21 ec), .agg (cellsP 21 xc)]) (r1 := .tup [.agg (cellsP 21 c), .d fun _ => ev]) tI_ok (by kernel_rfl) Tryz.func81 rfl rfl (by kernel_rfl) ?_
 clear hD hX
 cases hd : d.rests <;> cases he : e.rests <;> rw [hd] at d16 <;> rw [he] at e16
 ·have hE := hend _ _ (by rw [Val.restsF, hd, he]; rfl)
  repeat with_reducible refine jR (J4 (cellQ d16) (cellQ e16) (cellQ x17) (cellQ x18)) ?_
  refine ⟨fun h => ?_, fun h => ?_⟩
  ·have h := Classical.not_not.1 h
   obtain ⟨hc, hv⟩ := hE.1 h
   repeat with_reducible refine jR trivial ?_
   refine ⟨[], [], [], ?_⟩
   with_reducible refine jR trivial ?_
   subst hc hv
   simp only [cE21, x0, x1, x2, x3, x4, x5, x6, x7, x8, x9, x10, x11, x12, x13, x14, x15, x16, x17, x18, x19, x20, x17, x18, h, eZ, eS, not_true_eq_false, decide_false, getD']
  ·obtain ⟨hc, hv⟩ := hE.2 h
   repeat with_reducible refine jR trivial ?_
   refine ⟨[], [], [], ?_⟩
   with_reducible refine jR trivial ?_
   subst hc hv
   simp only [cE21, x0, x1, x2, x3, x4, x5, x6, x7, x8, x9, x10, x11, x12, x13, x14, x15, x16, x17, x18, x19, x20, x17, x18, h, eZ, eS, not_false_eq_true, decide_true, getD']
 ·have hE := hend _ _ (by rw [Val.restsF, hd, he]; rfl)
  repeat with_reducible refine jR (J4 (cellQ d16) (cellQ e16) (cellQ e17) (cellQ e18)) ?_
  refine ⟨fun h => ?_, fun h => ?_⟩
  ·have h := Classical.not_not.1 h
   obtain ⟨hc, hv⟩ := hE.1 h
   repeat with_reducible refine jR trivial ?_
   refine ⟨[], [], [], ?_⟩
   with_reducible refine jR trivial ?_
   subst hc hv
   simp only [cE21, x0, x1, x2, x3, x4, x5, x6, x7, x8, x9, x10, x11, x12, x13, x14, x15, x16, x17, x18, x19, x20, e17, e18, h, eZ, eS, not_true_eq_false, decide_false, getD']
  ·obtain ⟨hc, hv⟩ := hE.2 h
   repeat with_reducible refine jR trivial ?_
   refine ⟨[], [], [], ?_⟩
   with_reducible refine jR trivial ?_
   subst hc hv
   simp only [cE21, x0, x1, x2, x3, x4, x5, x6, x7, x8, x9, x10, x11, x12, x13, x14, x15, x16, x17, x18, x19, x20, e17, e18, h, eZ, eS, not_false_eq_true, decide_true, getD']
 ·have hE := hend _ _ (by rw [Val.restsF, hd, he]; rfl)
  repeat with_reducible refine jR (J4 (cellQ d16) (cellQ e16) (cellQ d17) (cellQ d18)) ?_
  refine ⟨fun h => ?_, fun h => ?_⟩
  ·have h := Classical.not_not.1 h
   obtain ⟨hc, hv⟩ := hE.1 h
   repeat with_reducible refine jR trivial ?_
   refine ⟨[], [], [], ?_⟩
   with_reducible refine jR trivial ?_
   subst hc hv
   simp only [cE21, x0, x1, x2, x3, x4, x5, x6, x7, x8, x9, x10, x11, x12, x13, x14, x15, x16, x17, x18, x19, x20, d17, d18, h, eZ, eS, not_true_eq_false, decide_false, getD']
  ·obtain ⟨hc, hv⟩ := hE.2 h
   repeat with_reducible refine jR trivial ?_
   refine ⟨[], [], [], ?_⟩
   with_reducible refine jR trivial ?_
   subst hc hv
   simp only [cE21, x0, x1, x2, x3, x4, x5, x6, x7, x8, x9, x10, x11, x12, x13, x14, x15, x16, x17, x18, x19, x20, d17, d18, h, eZ, eS, not_false_eq_true, decide_true, getD']
 ·repeat with_reducible refine jR (J6 (cellQ d16) (cellQ e16) (cellQ d17) (cellQ d18) (cellQ e17) (cellQ e18)) ?_
  refine ⟨fun h0 => ?_, fun h0 => ?_⟩
  ·obtain ⟨hc, hv⟩ : c = zEd ∧ ev = .lit er.c := by rw [Val.restsF, hd, he, if_pos ⟨rfl, rfl⟩, if_neg h0] at HR; exact HR
   repeat with_reducible refine jR trivial ?_
   refine ⟨[], [], [], ?_⟩
   with_reducible refine jR trivial ?_
   subst hc hv
   and_intros <;> exact LeD.of rfl
  ·have hE := hend d.ro e.rn (by rw [Val.restsF, hd, he, if_pos ⟨rfl, rfl⟩, if_pos (Classical.not_not.1 h0)])
   repeat with_reducible refine jR (J2 (cellQ d17) (cellQ e18)) ?_
   refine ⟨fun h => ?_, fun h => ?_⟩
   ·have h := Classical.not_not.1 h
    obtain ⟨hc, hv⟩ := hE.1 h
    repeat with_reducible refine jR trivial ?_
    refine ⟨[], [], [], ?_⟩
    with_reducible refine jR trivial ?_
    subst hc hv
    simp only [cE21, x0, x1, x2, x3, x4, x5, x6, x7, x8, x9, x10, x11, x12, x13, x14, x15, x16, x17, x18, x19, x20, d17, e18, h, eZ, eS, not_true_eq_false, decide_false, getD']
   ·obtain ⟨hc, hv⟩ := hE.2 h
    repeat with_reducible refine jR trivial ?_
    refine ⟨[], [], [], ?_⟩
    with_reducible refine jR trivial ?_
    subst hc hv
    simp only [cE21, x0, x1, x2, x3, x4, x5, x6, x7, x8, x9, x10, x11, x12, x13, x14, x15, x16, x17, x18, x19, x20, d17, e18, h, eZ, eS, not_false_eq_true, decide_true, getD']
end Go.Proofs.YtlmbcoecipbblaaGreatDoor
