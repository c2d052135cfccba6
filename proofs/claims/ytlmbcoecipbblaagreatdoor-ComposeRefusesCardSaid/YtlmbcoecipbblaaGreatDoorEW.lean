/- The elder contracts of values and edits as the engine's. -/
import Derived.Test.YtlmbcoecipbblaaGreatDoorGpM
set_option linter.unusedVariables false
set_option linter.unusedSimpArgs false
namespace Go.Proofs.YtlmbcoecipbblaaGreatDoor
open Go.RowKit
open Val (V E right cmp eright esm get find withV putV cF cP MonoN)
theorem eright_run {G : List (Nat × List DV)} {x : E} {xc : List DV} (hx : xc = encE x) (hm : esm x) (fr : List Nat) : PRun Tryz.prog G 9 [.agg (cellsP 21 xc)] [] fr (.d fun _ => .lit (.bool (eright x))) [] := by
 subst hx
 refine PRun.old ⟨_, Tryz.func9, rfl, by kernel_rfl⟩ (fun F w N vs hF hG hA => ?_)
 obtain ⟨ws, rfl, h1⟩ := aggs1 (encE_len x) hA
 refine (eright_any x ws w hm (((ER_iff x ws).1 h1).mono (fragE_le w F))).mono ?_
 rintro e w' ⟨rfl, hb⟩
 exact ⟨hb, _, rfl, by rw [PVR, DR]; exact ⟨rfl, rfl⟩⟩
theorem same_run {G : List (Nat × List DV)} {x y : V} {xc yc : List DV} (hx : xc = encV x) (hy : yc = encV y) (fr : List Nat) : PRun Tryz.prog G 13 [.agg (cellsP 7 xc), .agg (cellsP 7 yc)] [] fr (.d fun _ => .lit (.bool (decide (cmp x y = 0)))) [] := by
 subst hx; subst hy
 refine PRun.old ⟨_, Tryz.func13, rfl, by kernel_rfl⟩ (fun F w N vs hF hG hA => ?_)
 obtain ⟨ws, us, rfl, h1, h2⟩ := aggs2 (encV_len x) (encV_len y) hA
 refine (same_any x y ws us w (((VR_iff x ws).1 h1).mono (fragE_le w F)) (((VR_iff y us).1 h2).mono (fragE_le w F))).mono ?_
 rintro e w' ⟨rfl, hb⟩
 exact ⟨hb, _, rfl, by rw [PVR, DR]; exact ⟨rfl, rfl⟩⟩
theorem compare_run {G : List (Nat × List DV)} {x y : V} {xc yc : List DV} (hx : xc = encV x) (hy : yc = encV y) (fr : List Nat) : PRun Tryz.prog G 34 [.agg (cellsP 7 xc), .agg (cellsP 7 yc)] [] fr (.d fun _ => .lit (.int .i64 (cmp x y))) [] := by
 subst hx; subst hy
 refine PRun.old ⟨_, Tryz.func34, rfl, by kernel_rfl⟩ (fun F w N vs hF hG hA => ?_)
 obtain ⟨ws, us, rfl, h1, h2⟩ := aggs2 (encV_len x) (encV_len y) hA
 refine (compare_any x y ws us w (((VR_iff x ws).1 h1).mono (fragE_le w F)) (((VR_iff y us).1 h2).mono (fragE_le w F))).mono ?_
 rintro e w' ⟨rfl, hb⟩
 exact ⟨hb, _, rfl, by rw [PVR, DR]; exact ⟨rfl, rfl⟩⟩
theorem right_run {G : List (Nat × List DV)} {x : V} {xc : List DV} (hx : xc = encV x) (fr : List Nat) : PRun Tryz.prog G 21 [.agg (cellsP 7 xc)] [] fr (.d fun _ => .lit (.bool (right x))) [] := by
 subst hx
 refine PRun.old ⟨_, Tryz.func21, rfl, by kernel_rfl⟩ (fun F w N vs hF hG hA => ?_)
 obtain ⟨ws, rfl, h1⟩ := aggs1 (encV_len x) hA
 refine (right_any x ws w (((VR_iff x ws).1 h1).mono (fragE_le w F))).mono ?_
 rintro e w' ⟨rfl, hb⟩
 exact ⟨hb, _, rfl, by rw [PVR, DR]; exact ⟨rfl, rfl⟩⟩
theorem retV_out {F : List (Option Nat)} {w : World} {y : V} {yc : List DV} (hy : yc = encV y) {e : Ending} {w' : World} {N : Nm} (h : RetV F w y e w') : Below w.heap.size w w' ∧ ∃ v, e = .returned v ∧ PVR N (fragE w' F) (.agg (cellsP 7 yc)) v := by
 obtain ⟨c, rfl, h1, h2⟩ := h
 subst hy
 exact ⟨h2, _, rfl, (cellsP_ok (encV_len y)).2 ⟨c, rfl, (VR_iff y c).2 h1⟩⟩
theorem get_run {G : List (Nat × List DV)} {x : V} {n : Int} {xc yc : List DV} {nd : DV} (hx : xc = encV x) (hn : nd = .lit (.int .i64 n)) (hy : yc = encV (get x n)) (hm : MonoN (cF x.fields n) x.fields.length) (hl : x.fields.length < 1000000) (fr : List Nat) : PRun Tryz.prog G 99 [.agg (cellsP 7 xc), .d fun _ => nd] [] fr (.agg (cellsP 7 yc)) [] := by
 subst hx hn
 refine PRun.old ⟨_, Tryz.func99, rfl, by kernel_rfl⟩ (fun F w N vs hF hG hA => ?_)
 rw [PVRs] at hA
 obtain ⟨v, vs, rfl, h1, h2⟩ := hA
 obtain ⟨ws, rfl, h3⟩ := (cellsP_ok (encV_len x)).1 h1
 obtain ⟨u, rfl, h4⟩ := h2.one
 rw [PVR, DR] at h4
 rw [h4.1]
 exact (get_any x n ws w F hF ((VR_iff x ws).1 h3) hm hl).mono (fun e w' h => retV_out hy h)
theorem with_run {G : List (Nat × List DV)} {x z : V} {n : Int} {xc zc yc : List DV} {nd : DV} (hx : xc = encV x) (hn : nd = .lit (.int .i64 n)) (hz : zc = encV z) (hy : yc = encV (withV x n z)) (hm : MonoN (cF x.fields n) x.fields.length) (hl : x.fields.length < 100000) (fr : List Nat) : PRun Tryz.prog G 100 [.agg (cellsP 7 xc), .d fun _ => nd, .agg (cellsP 7 zc)] [] fr (.agg (cellsP 7 yc)) [] := by
 subst hx hn hz
 refine PRun.old ⟨_, Tryz.func100, rfl, by kernel_rfl⟩ (fun F w N vs hF hG hA => ?_)
 rw [PVRs] at hA
 obtain ⟨v, vs, rfl, h1, h2⟩ := hA
 obtain ⟨ws, rfl, h3⟩ := (cellsP_ok (encV_len x)).1 h1
 obtain ⟨u, vs, rfl, h4, h5⟩ := h2.cons
 obtain ⟨us, rfl, h6⟩ := aggs1 (encV_len z) h5
 rw [PVR, DR] at h4
 rw [h4.1]
 exact (with_any x z n ws us w F hF ((VR_iff x ws).1 h3) ((VR_iff z us).1 h6) hm hl).mono (fun e w' h => retV_out hy h)
theorem find_run {G : List (Nat × List DV)} {x k : V} {xc kc yc : List DV} (hx : xc = encV x) (hk : kc = encV k) (hy : yc = encV (find x k)) (hm : MonoN (cP x.pairs k) x.pairs.length) (hl : x.pairs.length < 1000000) (fr : List Nat) : PRun Tryz.prog G 102 [.agg (cellsP 7 xc), .agg (cellsP 7 kc)] [] fr (.agg (cellsP 7 yc)) [] := by
 subst hx hk
 refine PRun.old ⟨_, Tryz.func102, rfl, by kernel_rfl⟩ (fun F w N vs hF hG hA => ?_)
 obtain ⟨ws, us, rfl, h1, h2⟩ := aggs2 (encV_len x) (encV_len k) hA
 exact (find_any x k ws us w F hF ((VR_iff x ws).1 h1) (((VR_iff k us).1 h2).mono (fragE_le w F)) hm hl).mono (fun e w' h => retV_out hy h)
theorem vput_run {G : List (Nat × List DV)} {x k z : V} {xc kc zc yc : List DV} (hx : xc = encV x) (hk : kc = encV k) (hz : zc = encV z) (hy : yc = encV (putV x k z)) (hm : MonoN (cP x.pairs k) x.pairs.length) (hl : x.pairs.length < 100000) (fr : List Nat) : PRun Tryz.prog G 104 [.agg (cellsP 7 xc), .agg (cellsP 7 kc), .agg (cellsP 7 zc)] [] fr (.agg (cellsP 7 yc)) [] := by
 subst hx hk hz
 refine PRun.old ⟨_, Tryz.func104, rfl, by kernel_rfl⟩ (fun F w N vs hF hG hA => ?_)
 rw [PVRs] at hA
 obtain ⟨v, vs, rfl, h1, h2⟩ := hA
 obtain ⟨ws, rfl, h3⟩ := (cellsP_ok (encV_len x)).1 h1
 obtain ⟨us, ts, rfl, h4, h5⟩ := aggs2 (encV_len k) (encV_len z) h2
 exact (put_any x k z ws us ts w F hF ((VR_iff x ws).1 h3) ((VR_iff k us).1 h4) ((VR_iff z ts).1 h5) hm hl).mono (fun e w' h => retV_out hy h)
end Go.Proofs.YtlmbcoecipbblaaGreatDoor
