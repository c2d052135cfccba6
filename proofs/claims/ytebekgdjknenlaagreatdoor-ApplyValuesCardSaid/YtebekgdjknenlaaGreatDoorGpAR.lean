/- edit.keys, walked. Pieces for the walks of the reference's functions that make values. -/
import Derived.Test.YtebekgdjknenlaaGreatDoorGpAQ
import Derived.Deep.CutRange
set_option maxRecDepth 100000
set_option maxHeartbeats 2000000
set_option linter.unusedVariables false
set_option linter.unusedSimpArgs false
namespace Go.Proofs.YtebekgdjknenlaaGreatDoor
open Go.RowKit
open Val (V E cmp right noneV partB bareE eright esome stepRight esm esmF esmS esmK efields esteps ekeys v0)
def Val.lastK (ps : List (V × E)) (k : Nat) : Option V := if k = 0 then none else (ps[k - 1]?).map (·.1)
theorem Val.lastK_succ {ps : List (V × E)} {k : Nat} (h : k < ps.length) : lastK ps (k + 1) = some ps[k].1 := by simp [lastK, h]
theorem Val.ekeys_drop {ps : List (V × E)} {k : Nat} {m : Option V} (h : k < ps.length) : ekeys m (ps.drop k) = (decide (ps[k].1.kind = 1 ∨ ps[k].1.kind = 2) && right ps[k].1 && esome ps[k].2 && (match m with | none => true | some p => decide (p.kind = ps[k].1.kind) && decide (cmp p ps[k].1 < 0)) && ekeys (some ps[k].1) (ps.drop (k + 1))) := by
 rw [List.drop_eq_getElem_cons h]
 cases ps[k]
 conv => lhs; rw [ekeys.eq_def]
 rfl
theorem key28 {vc xc : List Value} (hv : Val7 vc) (h : Ed21 xc) : (vc ++ xc).length = 28 ∧ ∀ u ∈ vc ++ xc, u.oneCell' = true := by
 refine ⟨by simp [h.len, hv.len], fun u hu => ?_⟩
 rcases List.mem_append.1 hu with hu | hu
 ·exact hv.one u hu
 ·exact h.one u hu
theorem VR.k0 {h : Frag} {x : V} {xc : List Value} (hx : VR h x xc) : xc[0]? = some (.int .i64 x.kind) := by
 obtain ⟨n, t, r, a1, n1, c1, a2, n2, c2, a3, n3, c3, rfl⟩ := hx.shapeK
 rfl
structure KeAt (w : World) (g : Nat) (k : Int) (kc xc : List Value) : Prop where
 c0 : w.cell? ⟨g, 0, none⟩ = some (.int .i64 k)
 r0 : w.rangeAt g 0 kc
 r7 : w.rangeAt g 7 xc
theorem KeAt.of {w : World} {g : Nat} {k : Int} {kc xc : List Value} (lv : kc.length = 7) (h0 : kc[0]? = some (.int .i64 k)) (h : Blk w g (kc ++ xc)) : KeAt w g k kc xc := by
 have r0 : w.rangeAt g 0 kc := h.range (p := []) (q := kc) (r := xc) rfl rfl
 exact ⟨by have := r0 0 _ h0; rwa [Nat.add_zero] at this, r0, h.range (p := kc) (q := xc) (r := []) (by simp) lv⟩
theorem ekeys_at (N : Nat) (ih : ERightAt N) (fs : List (V × E)) (fe : List (List Value)) (v : Value) (w : World) (hs : ∀ e ∈ fs, SizeOf.sizeOf e.2 < N) (hz : esmK fs) (hv : FlatC 28 (frag w) v fe) (hf : EKs (frag w) fs fe) :
  Calls Tryz.prog 31 #[v] w fun e w' => e = .returned (.bool (decide (0 < fs.length) && ekeys none fs)) ∧ Below w.heap.size w w' := by
 obtain ⟨a, cap, rfl, hc1, hc2, _⟩ := hv.len
 have HX := Yq hv; have HF := Yq hf; have HS := Yq hs; have HZ := Yq hz
 have hlen := hf.len
 unfold maxLen at hc2
 clear hv hf hs hz
 obtain ⟨n, hn⟩ : ∃ n, n = fe.length := ⟨_, rfl⟩
 rw [← hn] at HX hc1 hlen ⊢
 have Hn := Yq hn.symm; have Hm := Yq hlen.symm; clear hn
 rw [← hlen]; clear hlen
 have Hfalse : Hid (ekeys none fs = false → false = (decide (0 < n) && ekeys none fs)) := by
  show _ → _
  intro h; rw [h]; simp
 go_enter Tryz.func31, Tryz.ntmps31
 go_wp2_with fail
 go_loopw [7] (fun i wr => ∃ k : Nat, k ≤ n ∧ i = .int .i64 k ∧ Hid (ekeys none fs = ekeys (Val.lastK fs k) (fs.drop k)) ∧ Below w.heap.size w wr) (fun i _ => n - (intOf i).toNat)
 case atStart => exact ⟨0, Nat.zero_le _, rfl, (by show _ = _; simp [Val.lastK]), Below.refl _ _⟩
 case round =>
  obtain ⟨k, hk, rfl, Hinv, hbel⟩ := hrel
  have hsz := hbel.size
  by_cases hlt : k < n
  ·have hks : k < fe.length := by rw [Hn.out]; exact hlt
   have hkf : k < fs.length := by rw [Hm.out]; exact hlt
   obtain ⟨b0, o0, hb0, hidx, hcell⟩ := FlatC.at (n := n) (cap := cap) (a := a) HX.out (by decide) (i := k) hks Tryz.underlying30 sizeEK
   obtain ⟨kc, xc, hx, rv, rx⟩ := HF.out.at hkf hks
   have hr : wr.rangeAt b0 o0 fe[k] := range_below hcell hbel hb0
   rw [hx] at hr
   have H28 := key28 rv.shape rx.shape
   have HL := Yq H28.1
   have H1 := Yq H28.2
   have HLk := Yq rv.len
   have HLx := Yq rx.shape.len
   have HR := Yq (fun (wx : World) (hb : Below wr.heap.size wr wx) => right_any fs[k].1 kc wx (rv.mono ((below_le hbel).trans (below_le hb))))
   have HI := Yq (fun (wx : World) (hb : Below wr.heap.size wr wx) => some_at N ih fs[k].2 xc wx (HS.out _ (List.getElem_mem _)) (Val.esmK_at HZ.out _ (List.getElem_mem _)) (rx.mono ((below_le hbel).trans (below_le hb))))
   have HB := Yq (fun (w2 : World) (g : Nat) (hB : Blk w2 g (kc ++ xc)) => KeAt.of rv.len rv.k0 hB)
   have Hd := Yq (Val.ekeys_drop (m := Val.lastK fs k) hkf)
   have Hl := Yq (Val.lastK_succ hkf)
   have Hrv := Yq rv
   clear hcell hx rv rx H28
   generalize esome fs[k].2 = sr at *
   obtain ⟨key, hkey⟩ : ∃ x, x = fs[k].1 := ⟨_, rfl⟩
   rw [← hkey] at HR HB Hd Hl Hrv
   clear hkey
   obtain ⟨xk, hxk⟩ : ∃ x, x = key.kind := ⟨_, rfl⟩
   rw [← hxk] at HB Hd
   have Hk0 : Hid (kc[0]? = some (.int .i64 xk)) := by show _ = _; rw [hxk]; exact Hrv.out.k0
   have Hxk := Yq hxk; clear hxk
   generalize right key = rk at *
   have he : (((xk != 1) = false) ∧ Hid (decide (xk = 1 ∨ xk = 2) = true)) ∨ (((xk != 1) = true ∧ (xk != 2) = false) ∧ Hid (decide (xk = 1 ∨ xk = 2) = true)) ∨ (((xk != 1) = true ∧ (xk != 2) = true) ∧ Hid (decide (xk = 1 ∨ xk = 2) = false)) := by
    by_cases h1 : xk = 1
    ·left; exact ⟨by simpa using h1, decide_eq_true (.inl h1)⟩
    ·by_cases h2 : xk = 2
     ·right; left; exact ⟨⟨by simpa using h1, by simpa using h2⟩, decide_eq_true (.inr h2)⟩
     ·right; right; exact ⟨⟨by simpa using h1, by simpa using h2⟩, decide_eq_false (by omega)⟩
   rcases he with ⟨e1, Hkd⟩ | ⟨⟨e1, e2⟩, Hkd⟩ | ⟨⟨e1, e2⟩, Hkd⟩
   all_goals
    go_wp2_with (first
     | (refine wpList_load_seg rfl 78 _ rfl _ _ rfl _ _ (by assumption) Tryz.underlying78 rfl (iC infoEK HL) ?_)
     | (refine wpList_load_seg rfl 32 _ rfl _ _ rfl _ _ (by assumption) Tryz.underlying32 rfl (iC infoE HLx) ?_)
     | (refine wpList_load_seg rfl 27 _ rfl _ _ rfl _ _ (by assumption) Tryz.underlying27 rfl (iC infoV HLk) ?_)
     | (refine wpList_alloc_lay rfl 78 rfl (zV ++ zE) zeroEK ?_; (intro w1 g hg hB1 hb1; clear hr))
     | (refine wpList_store_all rfl 78 _ _ rfl _ _ rfl rfl (zV ++ zE) (by assumption) ?_ ?_ ?_ ?_; (· exact iC infoEK HL); (· exact HL.out); (· exact H1.out); (intro w2 hB2 hgr; have hb2 := Below.grown hb1 hgr hb1.size (fun _ e => by cases e; exact hg); obtain ⟨q0, r0, r7⟩ := HB.out w2 _ hB2; have hz2 := hB2.lt; clear hb1 hgr hB1))
     | (go_at_call 18; refine (HR.out _ (by assumption)).mono ?_; rintro e w3 ⟨rfl, hb3⟩; replace hb2 := hb2.trans (hb3.mono hb2.size); replace hB2 := hB2.below hb3 hz2; replace hz2 := hB2.lt; clear q0 r0 r7 hb3; obtain ⟨q0, r0, r7⟩ := HB.out _ _ hB2)
     | (go_at_call 67; refine (HI.out _ (by assumption)).mono ?_; rintro e w3 ⟨rfl, hb3⟩; replace hb2 := hb2.trans (hb3.mono hb2.size); replace hB2 := hB2.below hb3 hz2; replace hz2 := hB2.lt; clear q0 r0 r7 hb3; obtain ⟨q0, r0, r7⟩ := HB.out _ _ hB2))
    all_goals
     first
     | (go_ret
        refine ⟨ret_bool (Hfalse.out ?_), hbel.trans (hb2.mono hsz)⟩
        rw [Hinv.out, Hd.out, Hkd.out]
        first | rfl | (have e : rk = false := (by assumption); rw [e]; rfl) | (have e : (!sr) = true := (by assumption); have e : sr = false := (by simpa using e); rw [e]; simp))
     | (have hsr : Hid (sr = true) := by
          have e : (!sr) = false := by assumption
          show _ = _
          simpa using e
        have hrk : Hid (rk = true) := by show _ = _; assumption
        rw [Hkd.out, hsr.out, hrk.out] at Hd
        by_cases hk0 : k = 0
        ·have g0 : decide ((0 : Int) < (k : Int)) = false := decide_eq_false (by omega)
         have g1 : ¬ ((0 : Int) < (k : Int)) := by omega
         have g2 : decide (0 < k) = false := decide_eq_false (by omega)
         have g3 : ¬ (0 < k) := by omega
         have Hl0 : Hid (Val.lastK fs k = none) := by show _ = _; rw [hk0]; rfl
         clear hk0
         go_quiet (fail)
         all_goals
           go_wp2_with fail
           go_roundw
           case rel => exact ⟨k + 1, by omega, by simp, (by show _ = _; rw [Hinv.out, Hd.out, Hl.out, Hl0.out]; simp), hbel.trans ((Below.drewN hb2 _).mono hsz)⟩
           case measure => simp [intOf]; omega
        ·obtain ⟨j, hj⟩ : ∃ j, k = j + 1 := ⟨k - 1, by omega⟩
         have hjs : j < fe.length := by omega
         have hjf : j < fs.length := by omega
         obtain ⟨b1, o1, hb1', hidx1, hcell1⟩ := FlatC.at (n := n) (cap := cap) (a := a) HX.out (by decide) (i := j) hjs Tryz.underlying30 sizeEK
         obtain ⟨lc, zc, hz, rl, rz⟩ := HF.out.at hjf hjs
         have Hlst : Hid (Val.lastK fs k = some fs[j].1) := by show _ = _; rw [hj]; exact Val.lastK_succ hjf
         have hjk : (j : Int) = (k : Int) - 1 := by omega
         rw [hjk] at hidx1
         have hbw3 := hbel.trans (hb2.mono hsz)
         have hr1 : w3.rangeAt b1 o1 lc := by
           have h1 : w3.rangeAt b1 o1 fe[j] := range_below hcell1 hbw3 hb1'
           rw [hz] at h1
           exact range_part (p := []) (q := lc) (r := zc) (k := 0) h1 rfl rfl
         have hl0 := rl.k0
         obtain ⟨l0, l1, l2, l3, l4, l5, l6, rfl⟩ := list7 rl.len
         obtain ⟨v0, v1, v2, v3, v4, v5, v6, rfl⟩ := list7 HLk.out
         obtain rfl : l0 = .int .i64 fs[j].1.kind := by simpa using hl0
         obtain rfl : v0 = .int .i64 xk := by have := Hk0.out; simpa using this
         have HC := Yq (fun (wx : World) (hb : Below wr.heap.size wr wx) => compare_any fs[j].1 key _ _ wx (rl.mono ((below_le hbel).trans (below_le hb))) (Hrv.out.mono ((below_le hbel).trans (below_le hb))))
         have g1 : (0 : Int) < (k : Int) := by omega
         have g2 : decide (0 < k) = true := decide_eq_true (by omega)
         have g4 : 0 < k := by omega
         have g3 : (k : Int) - 1 < (n : Int) := by omega
         have hwr : IntKind.i64.wrap ((k : Int) - 1) = (k : Int) - 1 := IntWalk.i64_in _ (by omega)
         have hb1w : b1 < w3.heap.size := Nat.lt_of_lt_of_le hb1' hbw3.size
         generalize fs[j].1 = last at *
         obtain ⟨pk, hpk⟩ : ∃ x, x = last.kind := ⟨_, rfl⟩
         rw [← hpk] at hr1 HC
         have Hpk := Yq hpk
         clear hcell1 hz rl rz hk0 hj hjk hpk hjs hjf hl0
         have HK : Held w3.heap.size w3 (fun w' => (w'.cell? ⟨g, 0, none⟩ = some (.int .i64 xk) ∧ w'.cell? ⟨g, 1, none⟩ = some v1 ∧ w'.cell? ⟨g, 2, none⟩ = some v2 ∧ w'.cell? ⟨g, 3, none⟩ = some v3 ∧ w'.cell? ⟨g, 4, none⟩ = some v4 ∧ w'.cell? ⟨g, 5, none⟩ = some v5 ∧ w'.cell? ⟨g, 6, none⟩ = some v6) ∧ (w'.cell? ⟨b1, o1, none⟩ = some (.int .i64 pk) ∧ w'.cell? ⟨b1, o1 + 1, none⟩ = some l1 ∧ w'.cell? ⟨b1, o1 + 2, none⟩ = some l2 ∧ w'.cell? ⟨b1, o1 + 3, none⟩ = some l3 ∧ w'.cell? ⟨b1, o1 + 4, none⟩ = some l4 ∧ w'.cell? ⟨b1, o1 + 5, none⟩ = some l5 ∧ w'.cell? ⟨b1, o1 + 6, none⟩ = some l6)) :=
           ⟨Nat.le_refl _, fun w' hb => ⟨⟨(hb.cell hz2).trans (r0 0 _ rfl), (hb.cell hz2).trans (r0 1 _ rfl), (hb.cell hz2).trans (r0 2 _ rfl), (hb.cell hz2).trans (r0 3 _ rfl), (hb.cell hz2).trans (r0 4 _ rfl), (hb.cell hz2).trans (r0 5 _ rfl), (hb.cell hz2).trans (r0 6 _ rfl)⟩, ⟨(hb.cell hb1w).trans (hr1 0 _ rfl), (hb.cell hb1w).trans (hr1 1 _ rfl), (hb.cell hb1w).trans (hr1 2 _ rfl), (hb.cell hb1w).trans (hr1 3 _ rfl), (hb.cell hb1w).trans (hr1 4 _ rfl), (hb.cell hb1w).trans (hr1 5 _ rfl), (hb.cell hb1w).trans (hr1 6 _ rfl)⟩⟩⟩
         have HBel : ∀ w', (fun w' => (((w'.cell? ⟨g, 0, none⟩ = some (.int .i64 xk) ∧ w'.cell? ⟨g, 1, none⟩ = some v1 ∧ w'.cell? ⟨g, 2, none⟩ = some v2 ∧ w'.cell? ⟨g, 3, none⟩ = some v3 ∧ w'.cell? ⟨g, 4, none⟩ = some v4 ∧ w'.cell? ⟨g, 5, none⟩ = some v5 ∧ w'.cell? ⟨g, 6, none⟩ = some v6) ∧ (w'.cell? ⟨b1, o1, none⟩ = some (.int .i64 pk) ∧ w'.cell? ⟨b1, o1 + 1, none⟩ = some l1 ∧ w'.cell? ⟨b1, o1 + 2, none⟩ = some l2 ∧ w'.cell? ⟨b1, o1 + 3, none⟩ = some l3 ∧ w'.cell? ⟨b1, o1 + 4, none⟩ = some l4 ∧ w'.cell? ⟨b1, o1 + 5, none⟩ = some l5 ∧ w'.cell? ⟨b1, o1 + 6, none⟩ = some l6)) ∧ Below w3.heap.size w3 w')) w' → Below wr.heap.size wr w' := fun w' h => hb2.trans (h.2.mono hb2.size)
         have HBel := Yq HBel; have HK := Yq HK
         by_cases hkk : pk = xk
         ·have gk : (pk != xk) = false := by simpa using hkk
          have Hkk2 := Yq hkk; clear hkk
          by_cases hc : cmp last key < 0
          ·have gc : decide (cmp last key ≥ 0) = false := by simpa using hc
           have gc2 : decide (0 ≤ cmp last key) = false := by simpa using hc
           have Hc := Yq hc; clear hc
           go_region_held3 (fun w' => (((w'.cell? ⟨g, 0, none⟩ = some (.int .i64 xk) ∧ w'.cell? ⟨g, 1, none⟩ = some v1 ∧ w'.cell? ⟨g, 2, none⟩ = some v2 ∧ w'.cell? ⟨g, 3, none⟩ = some v3 ∧ w'.cell? ⟨g, 4, none⟩ = some v4 ∧ w'.cell? ⟨g, 5, none⟩ = some v5 ∧ w'.cell? ⟨g, 6, none⟩ = some v6) ∧ (w'.cell? ⟨b1, o1, none⟩ = some (.int .i64 pk) ∧ w'.cell? ⟨b1, o1 + 1, none⟩ = some l1 ∧ w'.cell? ⟨b1, o1 + 2, none⟩ = some l2 ∧ w'.cell? ⟨b1, o1 + 3, none⟩ = some l3 ∧ w'.cell? ⟨b1, o1 + 4, none⟩ = some l4 ∧ w'.cell? ⟨b1, o1 + 5, none⟩ = some l5 ∧ w'.cell? ⟨b1, o1 + 6, none⟩ = some l6)) ∧ Below w3.heap.size w3 w'))
             (first | assumption | exact HK.out.start | exact HK.out.call (by assumption) (by assumption) | exact HK.out.alloc (by assumption) _)
             (first
             | (go_at_call 27; refine (HC.out _ (HBel.out _ (by assumption))).mono ?_; rintro e w4 ⟨rfl, hb4⟩))
           all_goals
             clear hwr
             go_wp2_with fail
             go_roundw
             case rel => exact ⟨k + 1, by omega, by simp, (by show _ = _; rw [Hinv.out, Hd.out, Hl.out, Hlst.out]; simp [← Hpk.out, Hkk2.out, Hc.out]), hbel.trans ((HBel.out _ (by assumption)).mono hsz)⟩
             case measure => simp [intOf]; omega
          ·have gc : decide (cmp last key ≥ 0) = true := by simp; omega
           have gc2 : decide (0 ≤ cmp last key) = true := by simp; omega
           have Hc := Yq hc; clear hc
           have hfin : Hid (ekeys none fs = false) := by show _ = _; rw [Hinv.out, Hd.out, Hlst.out]; simp [Hc.out]
           go_region_held3 (fun w' => (((w'.cell? ⟨g, 0, none⟩ = some (.int .i64 xk) ∧ w'.cell? ⟨g, 1, none⟩ = some v1 ∧ w'.cell? ⟨g, 2, none⟩ = some v2 ∧ w'.cell? ⟨g, 3, none⟩ = some v3 ∧ w'.cell? ⟨g, 4, none⟩ = some v4 ∧ w'.cell? ⟨g, 5, none⟩ = some v5 ∧ w'.cell? ⟨g, 6, none⟩ = some v6) ∧ (w'.cell? ⟨b1, o1, none⟩ = some (.int .i64 pk) ∧ w'.cell? ⟨b1, o1 + 1, none⟩ = some l1 ∧ w'.cell? ⟨b1, o1 + 2, none⟩ = some l2 ∧ w'.cell? ⟨b1, o1 + 3, none⟩ = some l3 ∧ w'.cell? ⟨b1, o1 + 4, none⟩ = some l4 ∧ w'.cell? ⟨b1, o1 + 5, none⟩ = some l5 ∧ w'.cell? ⟨b1, o1 + 6, none⟩ = some l6)) ∧ Below w3.heap.size w3 w'))
             (first | assumption | exact HK.out.start | exact HK.out.call (by assumption) (by assumption) | exact HK.out.alloc (by assumption) _)
             (first
             | (go_at_call 27; refine (HC.out _ (HBel.out _ (by assumption))).mono ?_; rintro e w4 ⟨rfl, hb4⟩))
           all_goals
             clear hwr
             go_wp2_with fail
             go_ret
             exact ⟨ret_bool (Hfalse.out hfin.out), hbel.trans ((HBel.out _ (by assumption)).mono hsz)⟩
         ·have gk : (pk != xk) = true := by simpa using hkk
          have Hkk2 := Yq hkk; clear hkk
          have hfin : Hid (ekeys none fs = false) := by show _ = _; rw [Hinv.out, Hd.out, Hlst.out]; simp [← Hpk.out, Hkk2.out]
          have hd0 : w3.cell? ⟨b1, o1, none⟩ = some (.int .i64 pk) := by have := hr1 0 _ rfl; rwa [Nat.add_zero] at this
          go_quiet (fail)
          go_wp2_with fail
          go_ret
          exact ⟨ret_bool (Hfalse.out hfin.out), Below.drewN hbw3 _⟩)
  ·obtain rfl : k = n := by omega
   go_wp2_with fail
   go_ret
   refine ⟨ret_bool ?_, hbel⟩
   rw [Hinv.out, ← Hm.out, List.drop_length, ekeys]
   simp
open Val (V v0 mkM mkP)
theorem fragU_F (w : World) {B : Nat} {F : List (Option Nat)} (hF : ∀ k, some k ∈ F → k < B) : FLe (fragU w B []) (fragE w F) := fun k o e => by
 unfold fragU at e; split at e
 ·rename_i hk
  unfold fragE at e ⊢
  rw [if_neg (by simp)] at e
  rw [if_neg (fun h => by have := hF k h; omega)]; exact e
 ·cases e
theorem wpList_bld2 {P : Program} {ops : Array Oper} {rest : List Oper} {op : Oper} {a : Act} {w : World} {Q : Exit → Act → World → Prop} (hgd : op.guard = none) (t : TypeId) (i0 i1 : Nat) (x0 x1 : Operand) (ho : op.op = .build t #[(i0, x0), (i1, x1)]) (v0 v1 v : Value)
  (h0 : a.eval x0 = v0) (h1 : a.eval x1 = v1) (hr : ∀ w, (Instr.build t #[(i0, v0), (i1, v1)]).run P w = .ok v w) (h : wpList P ops Q rest (a.put op.dst v) w) : wpList P ops Q (op :: rest) a w :=
 wpList_plain hgd fun _ hK => by
  unfold Oper.wp execOp
  simp only [ho, List.map_toArray, List.map_cons, List.map_nil, h0, h1, Sem.run_bind, Sem.run_pure, hr w, Result.andThen_ok]
  exact hK _ _ h
theorem rw_build (r : ByteArray) (w : World) : (Instr.build 40 #[(0, .int .i64 3), (4, .string r)]).run Tryz.prog w = .ok (.agg #[.int .i64 3, .int .u64 0, .string ⟨#[]⟩, .slice none 0 0, .string r, .slice none 0 0, .slice none 0 0]) w := by kernel_rfl
def cM (r : ByteArray) (u : Value) : List Value := [.int .i64 3, .int .u64 0, .string ⟨#[]⟩, u, .string r, .slice none 0 0, .slice none 0 0]
def cP (k : Int) (u : Value) : List Value := [.int .i64 k, .int .u64 0, .string ⟨#[]⟩, .slice none 0 0, .string ⟨#[]⟩, .slice none 0 0, u]
theorem one_cM {r : ByteArray} {u : Value} (h : u.oneCell' = true) : ∀ x ∈ cM r u, x.oneCell' = true := by
 intro x hx
 simp only [cM, List.mem_cons, List.not_mem_nil, or_false] at hx
 rcases hx with rfl | rfl | rfl | rfl | rfl | rfl | rfl <;> first | rfl | exact h
theorem one_cP {k : Int} {u : Value} (h : u.oneCell' = true) : ∀ x ∈ cP k u, x.oneCell' = true := by
 intro x hx
 simp only [cP, List.mem_cons, List.not_mem_nil, or_false] at hx
 rcases hx with rfl | rfl | rfl | rfl | rfl | rfl | rfl <;> first | rfl | exact h
theorem sz_empty : (⟨#[]⟩ : ByteArray).size ≤ maxLen := by show 0 ≤ maxLen; exact Nat.zero_le _
theorem VR.msg {h : Frag} {o : List (Int × V)} {r : ByteArray} {u : Value} {es : List (List Value)} (hr : r.size ≤ maxLen) (h1 : FlatC 8 h u es) (h2 : FsR h o es) : VR h (mkM o r) (cM r u) := by
 unfold mkM; rw [VR]
 exact ⟨u, _, _, es, [], [], rfl, ⟨sz_empty, hr⟩, ⟨h1, FlatC.nil 7 h, FlatC.nil 14 h⟩, h2, by rw [LsR], by rw [PsR]⟩
theorem VR.map5 {h : Frag} {o : List (V × V)} {u : Value} {es : List (List Value)} (h1 : FlatC 14 h u es) (h2 : PsR h o es) : VR h (.mk 5 0 ByteArray.empty [] ByteArray.empty [] o) (cP 5 u) := by
 rw [VR]
 exact ⟨_, _, u, [], [], es, rfl, ⟨sz_empty, sz_empty⟩, ⟨FlatC.nil 8 h, FlatC.nil 7 h, h1⟩, by rw [FsR], by rw [LsR], h2⟩
end Go.Proofs.YtebekgdjknenlaaGreatDoor
