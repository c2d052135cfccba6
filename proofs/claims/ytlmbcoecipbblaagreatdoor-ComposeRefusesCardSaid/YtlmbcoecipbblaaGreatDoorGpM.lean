/- edit.keys, walked. edit.Right, walked. -/
import Derived.Test.YtlmbcoecipbblaaGreatDoorELists
set_option maxRecDepth 100000
set_option maxHeartbeats 2000000
set_option linter.unusedVariables false
set_option linter.unusedSimpArgs false
namespace Go.Proofs.YtlmbcoecipbblaaGreatDoor
open Go.RowKit
open Val (V E cmp right noneV partB bareE eright esome stepRight esm esmF esmS esmK efields esteps ekeys v0)
def Val.lastK (ps : List (V × E)) (k : Nat) : Option V := if k = 0 then none else (ps[k - 1]?).map (·.1)
theorem Val.lastK_succ {ps : List (V × E)} {k : Nat} (h : k < ps.length) : lastK ps (k + 1) = some ps[k].1 := by simp [lastK, h]
theorem Val.ekeys_drop {ps : List (V × E)} {k : Nat} {m : Option V} (h : k < ps.length) : ekeys m (ps.drop k) = (decide (ps[k].1.kind = 1 ∨ ps[k].1.kind = 2) && right ps[k].1 && esome ps[k].2 && (match m with | none => true | some p => decide (p.kind = ps[k].1.kind) && decide (cmp p ps[k].1 < 0)) && ekeys (some ps[k].1) (ps.drop (k + 1))) := by
 rw [List.drop_eq_getElem_cons h]
 cases ps[k]
 conv => lhs; rw [ekeys.eq_def]
 rfl
theorem key28 {vc xc : List Value} (hv : Val7 vc) (h : Ed21 xc) : (vc ++ xc).length = 28 ∧ ∀ u ∈ vc ++ xc, u.oneCell' = true := by
 refine ⟨by simp [h.len, hv.len], fun u hu => ?_⟩
 rcases List.mem_append.1 hu with hu | hu
 ·exact hv.one u hu
 ·exact h.one u hu
theorem VR.k0 {h : Frag} {x : V} {xc : List Value} (hx : VR h x xc) : xc[0]? = some (.int .i64 x.kind) := by
 obtain ⟨n, t, r, a1, n1, c1, a2, n2, c2, a3, n3, c3, rfl⟩ := hx.shapeK
 rfl
structure KeAt (w : World) (g : Nat) (k : Int) (kc xc : List Value) : Prop where
 c0 : w.cell? ⟨g, 0, none⟩ = some (.int .i64 k)
 r0 : w.rangeAt g 0 kc
 r7 : w.rangeAt g 7 xc
theorem KeAt.of {w : World} {g : Nat} {k : Int} {kc xc : List Value} (lv : kc.length = 7) (h0 : kc[0]? = some (.int .i64 k)) (h : Blk w g (kc ++ xc)) : KeAt w g k kc xc := by
 have r0 : w.rangeAt g 0 kc := h.range (p := []) (q := kc) (r := xc) rfl rfl
 exact ⟨by have := r0 0 _ h0; rwa [Nat.add_zero] at this, r0, h.range (p := kc) (q := xc) (r := []) (by simp) lv⟩
theorem ekeys_at (N : Nat) (ih : ERightAt N) (fs : List (V × E)) (fe : List (List Value)) (v : Value) (w : World) (hs : ∀ e ∈ fs, SizeOf.sizeOf e.2 < N) (hz : esmK fs) (hv : FlatC 28 (frag w) v fe) (hf : EKs (frag w) fs fe) :
  Calls Tryz.prog 24 #[v] w fun e w' => e = .returned (.bool (decide (0 < fs.length) && ekeys none fs)) ∧ Below w.heap.size w w' := by
 obtain ⟨a, cap, rfl, hc1, hc2, _⟩ := hv.len
 have HX := Yq hv; have HF := Yq hf; have HS := Yq hs; have HZ := Yq hz
 have hlen := hf.len
 unfold maxLen at hc2
 clear hv hf hs hz
 obtain ⟨n, hn⟩ : ∃ n, n = fe.length := ⟨_, rfl⟩
 rw [← hn] at HX hc1 hlen ⊢
 have Hn := Yq hn.symm; have Hm := Yq hlen.symm; clear hn
 rw [← hlen]; clear hlen
 have Hfalse : Hid (ekeys none fs = false → false = (decide (0 < n) && ekeys none fs)) := by
  show _ → _
  intro h; rw [h]; simp
 go_enter Tryz.func24, Tryz.ntmps24
 go_wp2_with fail
 go_loopw [7] (fun i wr => ∃ k : Nat, k ≤ n ∧ i = .int .i64 k ∧ Hid (ekeys none fs = ekeys (Val.lastK fs k) (fs.drop k)) ∧ Below w.heap.size w wr) (fun i _ => n - (intOf i).toNat)
 case atStart => exact ⟨0, Nat.zero_le _, rfl, (by show _ = _; simp [Val.lastK]), Below.refl _ _⟩
 case round =>
  obtain ⟨k, hk, rfl, Hinv, hbel⟩ := hrel
  have hsz := hbel.size
  by_cases hlt : k < n
  ·have hks : k < fe.length := by rw [Hn.out]; exact hlt
   have hkf : k < fs.length := by rw [Hm.out]; exact hlt
   obtain ⟨b0, o0, hb0, hidx, hcell⟩ := FlatC.at (n := n) (cap := cap) (a := a) HX.out (by decide) (i := k) hks Tryz.underlying30 sizeEK
   obtain ⟨kc, xc, hx, rv, rx⟩ := HF.out.at hkf hks
   have hr : wr.rangeAt b0 o0 fe[k] := range_below hcell hbel hb0
   rw [hx] at hr
   have H28 := key28 rv.shape rx.shape
   have HL := Yq H28.1
   have H1 := Yq H28.2
   have HLk := Yq rv.len
   have HLx := Yq rx.shape.len
   have HR := Yq (fun (wx : World) (hb : Below wr.heap.size wr wx) => right_any fs[k].1 kc wx (rv.mono ((below_le hbel).trans (below_le hb))))
   have HI := Yq (fun (wx : World) (hb : Below wr.heap.size wr wx) => some_at N ih fs[k].2 xc wx (HS.out _ (List.getElem_mem _)) (Val.esmK_at HZ.out _ (List.getElem_mem _)) (rx.mono ((below_le hbel).trans (below_le hb))))
   have HB := Yq (fun (w2 : World) (g : Nat) (hB : Blk w2 g (kc ++ xc)) => KeAt.of rv.len rv.k0 hB)
   have Hd := Yq (Val.ekeys_drop (m := Val.lastK fs k) hkf)
   have Hl := Yq (Val.lastK_succ hkf)
   have Hrv := Yq rv
   clear hcell hx rv rx H28
   generalize esome fs[k].2 = sr at *
   obtain ⟨key, hkey⟩ : ∃ x, x = fs[k].1 := ⟨_, rfl⟩
   rw [← hkey] at HR HB Hd Hl Hrv
   clear hkey
   obtain ⟨xk, hxk⟩ : ∃ x, x = key.kind := ⟨_, rfl⟩
   rw [← hxk] at HB Hd
   have Hk0 : Hid (kc[0]? = some (.int .i64 xk)) := by show _ = _; rw [hxk]; exact Hrv.out.k0
   have Hxk := Yq hxk; clear hxk
   generalize right key = rk at *
   have he : (((xk != 1) = false) ∧ Hid (decide (xk = 1 ∨ xk = 2) = true)) ∨ (((xk != 1) = true ∧ (xk != 2) = false) ∧ Hid (decide (xk = 1 ∨ xk = 2) = true)) ∨ (((xk != 1) = true ∧ (xk != 2) = true) ∧ Hid (decide (xk = 1 ∨ xk = 2) = false)) := by
    by_cases h1 : xk = 1
    ·left; exact ⟨by simpa using h1, decide_eq_true (.inl h1)⟩
    ·by_cases h2 : xk = 2
     ·right; left; exact ⟨⟨by simpa using h1, by simpa using h2⟩, decide_eq_true (.inr h2)⟩
     ·right; right; exact ⟨⟨by simpa using h1, by simpa using h2⟩, decide_eq_false (by omega)⟩
   rcases he with ⟨e1, Hkd⟩ | ⟨⟨e1, e2⟩, Hkd⟩ | ⟨⟨e1, e2⟩, Hkd⟩
   all_goals
    go_wp2_with (first
     | (refine wpList_load_seg rfl 64 _ rfl _ _ rfl _ _ (by assumption) Tryz.underlying64 rfl (iC infoEK HL) ?_)
     | (refine wpList_load_seg rfl 32 _ rfl _ _ rfl _ _ (by assumption) Tryz.underlying32 rfl (iC infoE HLx) ?_)
     | (refine wpList_load_seg rfl 27 _ rfl _ _ rfl _ _ (by assumption) Tryz.underlying27 rfl (iC infoV HLk) ?_)
     | (refine wpList_alloc_lay rfl 64 rfl (zV ++ zE) zeroEK ?_; (intro w1 g hg hB1 hb1; clear hr))
     | (refine wpList_store_all rfl 64 _ _ rfl _ _ rfl rfl (zV ++ zE) (by assumption) ?_ ?_ ?_ ?_; (· exact iC infoEK HL); (· exact HL.out); (· exact H1.out); (intro w2 hB2 hgr; have hb2 := Below.grown hb1 hgr hb1.size (fun _ e => by cases e; exact hg); obtain ⟨q0, r0, r7⟩ := HB.out w2 _ hB2; have hz2 := hB2.lt; clear hb1 hgr hB1))
     | (go_at_call 21; refine (HR.out _ (by assumption)).mono ?_; rintro e w3 ⟨rfl, hb3⟩; replace hb2 := hb2.trans (hb3.mono hb2.size); replace hB2 := hB2.below hb3 hz2; replace hz2 := hB2.lt; clear q0 r0 r7 hb3; obtain ⟨q0, r0, r7⟩ := HB.out _ _ hB2)
     | (go_at_call 49; refine (HI.out _ (by assumption)).mono ?_; rintro e w3 ⟨rfl, hb3⟩; replace hb2 := hb2.trans (hb3.mono hb2.size); replace hB2 := hB2.below hb3 hz2; replace hz2 := hB2.lt; clear q0 r0 r7 hb3; obtain ⟨q0, r0, r7⟩ := HB.out _ _ hB2))
    all_goals
     first
     | (go_ret
        refine ⟨ret_bool (Hfalse.out ?_), hbel.trans (hb2.mono hsz)⟩
        rw [Hinv.out, Hd.out, Hkd.out]
        first | rfl | (have e : rk = false := (by assumption); rw [e]; rfl) | (have e : (!sr) = true := (by assumption); have e : sr = false := (by simpa using e); rw [e]; simp))
     | (have hsr : Hid (sr = true) := by
          have e : (!sr) = false := by assumption
          show _ = _
          simpa using e
        have hrk : Hid (rk = true) := by show _ = _; assumption
        rw [Hkd.out, hsr.out, hrk.out] at Hd
        by_cases hk0 : k = 0
        ·have g0 : decide ((0 : Int) < (k : Int)) = false := decide_eq_false (by omega)
         have g1 : ¬ ((0 : Int) < (k : Int)) := by omega
         have g2 : decide (0 < k) = false := decide_eq_false (by omega)
         have g3 : ¬ (0 < k) := by omega
         have Hl0 : Hid (Val.lastK fs k = none) := by show _ = _; rw [hk0]; rfl
         clear hk0
         go_quiet (fail)
         all_goals
           go_wp2_with fail
           go_roundw
           case rel => exact ⟨k + 1, by omega, by simp, (by show _ = _; rw [Hinv.out, Hd.out, Hl.out, Hl0.out]; simp), hbel.trans ((Below.drewN hb2 _).mono hsz)⟩
           case measure => simp [intOf]; omega
        ·obtain ⟨j, hj⟩ : ∃ j, k = j + 1 := ⟨k - 1, by omega⟩
         have hjs : j < fe.length := by omega
         have hjf : j < fs.length := by omega
         obtain ⟨b1, o1, hb1', hidx1, hcell1⟩ := FlatC.at (n := n) (cap := cap) (a := a) HX.out (by decide) (i := j) hjs Tryz.underlying30 sizeEK
         obtain ⟨lc, zc, hz, rl, rz⟩ := HF.out.at hjf hjs
         have Hlst : Hid (Val.lastK fs k = some fs[j].1) := by show _ = _; rw [hj]; exact Val.lastK_succ hjf
         have hjk : (j : Int) = (k : Int) - 1 := by omega
         rw [hjk] at hidx1
         have hbw3 := hbel.trans (hb2.mono hsz)
         have hr1 : w3.rangeAt b1 o1 lc := by
           have h1 : w3.rangeAt b1 o1 fe[j] := range_below hcell1 hbw3 hb1'
           rw [hz] at h1
           exact range_part (p := []) (q := lc) (r := zc) (k := 0) h1 rfl rfl
         have hl0 := rl.k0
         obtain ⟨l0, l1, l2, l3, l4, l5, l6, rfl⟩ := list7 rl.len
         obtain ⟨v0, v1, v2, v3, v4, v5, v6, rfl⟩ := list7 HLk.out
         obtain rfl : l0 = .int .i64 fs[j].1.kind := by simpa using hl0
         obtain rfl : v0 = .int .i64 xk := by have := Hk0.out; simpa using this
         have HC := Yq (fun (wx : World) (hb : Below wr.heap.size wr wx) => compare_any fs[j].1 key _ _ wx (rl.mono ((below_le hbel).trans (below_le hb))) (Hrv.out.mono ((below_le hbel).trans (below_le hb))))
         have g1 : (0 : Int) < (k : Int) := by omega
         have g2 : decide (0 < k) = true := decide_eq_true (by omega)
         have g4 : 0 < k := by omega
         have g3 : (k : Int) - 1 < (n : Int) := by omega
         have hwr : IntKind.i64.wrap ((k : Int) - 1) = (k : Int) - 1 := IntWalk.i64_in _ (by omega)
         have hb1w : b1 < w3.heap.size := Nat.lt_of_lt_of_le hb1' hbw3.size
         generalize fs[j].1 = last at *
         obtain ⟨pk, hpk⟩ : ∃ x, x = last.kind := ⟨_, rfl⟩
         rw [← hpk] at hr1 HC
         have Hpk := Yq hpk
         clear hcell1 hz rl rz hk0 hj hjk hpk hjs hjf hl0
         have HK : Held w3.heap.size w3 (fun w' => (w'.cell? ⟨g, 0, none⟩ = some (.int .i64 xk) ∧ w'.cell? ⟨g, 1, none⟩ = some v1 ∧ w'.cell? ⟨g, 2, none⟩ = some v2 ∧ w'.cell? ⟨g, 3, none⟩ = some v3 ∧ w'.cell? ⟨g, 4, none⟩ = some v4 ∧ w'.cell? ⟨g, 5, none⟩ = some v5 ∧ w'.cell? ⟨g, 6, none⟩ = some v6) ∧ (w'.cell? ⟨b1, o1, none⟩ = some (.int .i64 pk) ∧ w'.cell? ⟨b1, o1 + 1, none⟩ = some l1 ∧ w'.cell? ⟨b1, o1 + 2, none⟩ = some l2 ∧ w'.cell? ⟨b1, o1 + 3, none⟩ = some l3 ∧ w'.cell? ⟨b1, o1 + 4, none⟩ = some l4 ∧ w'.cell? ⟨b1, o1 + 5, none⟩ = some l5 ∧ w'.cell? ⟨b1, o1 + 6, none⟩ = some l6)) :=
           ⟨Nat.le_refl _, fun w' hb => ⟨⟨(hb.cell hz2).trans (r0 0 _ rfl), (hb.cell hz2).trans (r0 1 _ rfl), (hb.cell hz2).trans (r0 2 _ rfl), (hb.cell hz2).trans (r0 3 _ rfl), (hb.cell hz2).trans (r0 4 _ rfl), (hb.cell hz2).trans (r0 5 _ rfl), (hb.cell hz2).trans (r0 6 _ rfl)⟩, ⟨(hb.cell hb1w).trans (hr1 0 _ rfl), (hb.cell hb1w).trans (hr1 1 _ rfl), (hb.cell hb1w).trans (hr1 2 _ rfl), (hb.cell hb1w).trans (hr1 3 _ rfl), (hb.cell hb1w).trans (hr1 4 _ rfl), (hb.cell hb1w).trans (hr1 5 _ rfl), (hb.cell hb1w).trans (hr1 6 _ rfl)⟩⟩⟩
         have HBel : ∀ w', (fun w' => (((w'.cell? ⟨g, 0, none⟩ = some (.int .i64 xk) ∧ w'.cell? ⟨g, 1, none⟩ = some v1 ∧ w'.cell? ⟨g, 2, none⟩ = some v2 ∧ w'.cell? ⟨g, 3, none⟩ = some v3 ∧ w'.cell? ⟨g, 4, none⟩ = some v4 ∧ w'.cell? ⟨g, 5, none⟩ = some v5 ∧ w'.cell? ⟨g, 6, none⟩ = some v6) ∧ (w'.cell? ⟨b1, o1, none⟩ = some (.int .i64 pk) ∧ w'.cell? ⟨b1, o1 + 1, none⟩ = some l1 ∧ w'.cell? ⟨b1, o1 + 2, none⟩ = some l2 ∧ w'.cell? ⟨b1, o1 + 3, none⟩ = some l3 ∧ w'.cell? ⟨b1, o1 + 4, none⟩ = some l4 ∧ w'.cell? ⟨b1, o1 + 5, none⟩ = some l5 ∧ w'.cell? ⟨b1, o1 + 6, none⟩ = some l6)) ∧ Below w3.heap.size w3 w')) w' → Below wr.heap.size wr w' := fun w' h => hb2.trans (h.2.mono hb2.size)
         have HBel := Yq HBel; have HK := Yq HK
         by_cases hkk : pk = xk
         ·have gk : (pk != xk) = false := by simpa using hkk
          have Hkk2 := Yq hkk; clear hkk
          by_cases hc : cmp last key < 0
          ·have gc : decide (cmp last key ≥ 0) = false := by simpa using hc
           have gc2 : decide (0 ≤ cmp last key) = false := by simpa using hc
           have Hc := Yq hc; clear hc
           go_region_held3 (fun w' => (((w'.cell? ⟨g, 0, none⟩ = some (.int .i64 xk) ∧ w'.cell? ⟨g, 1, none⟩ = some v1 ∧ w'.cell? ⟨g, 2, none⟩ = some v2 ∧ w'.cell? ⟨g, 3, none⟩ = some v3 ∧ w'.cell? ⟨g, 4, none⟩ = some v4 ∧ w'.cell? ⟨g, 5, none⟩ = some v5 ∧ w'.cell? ⟨g, 6, none⟩ = some v6) ∧ (w'.cell? ⟨b1, o1, none⟩ = some (.int .i64 pk) ∧ w'.cell? ⟨b1, o1 + 1, none⟩ = some l1 ∧ w'.cell? ⟨b1, o1 + 2, none⟩ = some l2 ∧ w'.cell? ⟨b1, o1 + 3, none⟩ = some l3 ∧ w'.cell? ⟨b1, o1 + 4, none⟩ = some l4 ∧ w'.cell? ⟨b1, o1 + 5, none⟩ = some l5 ∧ w'.cell? ⟨b1, o1 + 6, none⟩ = some l6)) ∧ Below w3.heap.size w3 w'))
             (first | assumption | exact HK.out.start | exact HK.out.call (by assumption) (by assumption) | exact HK.out.alloc (by assumption) _)
             (first
             | (go_at_call 34; refine (HC.out _ (HBel.out _ (by assumption))).mono ?_; rintro e w4 ⟨rfl, hb4⟩))
           all_goals
             clear hwr
             go_wp2_with fail
             go_roundw
             case rel => exact ⟨k + 1, by omega, by simp, (by show _ = _; rw [Hinv.out, Hd.out, Hl.out, Hlst.out]; simp [← Hpk.out, Hkk2.out, Hc.out]), hbel.trans ((HBel.out _ (by assumption)).mono hsz)⟩
             case measure => simp [intOf]; omega
          ·have gc : decide (cmp last key ≥ 0) = true := by simp; omega
           have gc2 : decide (0 ≤ cmp last key) = true := by simp; omega
           have Hc := Yq hc; clear hc
           have hfin : Hid (ekeys none fs = false) := by show _ = _; rw [Hinv.out, Hd.out, Hlst.out]; simp [Hc.out]
           go_region_held3 (fun w' => (((w'.cell? ⟨g, 0, none⟩ = some (.int .i64 xk) ∧ w'.cell? ⟨g, 1, none⟩ = some v1 ∧ w'.cell? ⟨g, 2, none⟩ = some v2 ∧ w'.cell? ⟨g, 3, none⟩ = some v3 ∧ w'.cell? ⟨g, 4, none⟩ = some v4 ∧ w'.cell? ⟨g, 5, none⟩ = some v5 ∧ w'.cell? ⟨g, 6, none⟩ = some v6) ∧ (w'.cell? ⟨b1, o1, none⟩ = some (.int .i64 pk) ∧ w'.cell? ⟨b1, o1 + 1, none⟩ = some l1 ∧ w'.cell? ⟨b1, o1 + 2, none⟩ = some l2 ∧ w'.cell? ⟨b1, o1 + 3, none⟩ = some l3 ∧ w'.cell? ⟨b1, o1 + 4, none⟩ = some l4 ∧ w'.cell? ⟨b1, o1 + 5, none⟩ = some l5 ∧ w'.cell? ⟨b1, o1 + 6, none⟩ = some l6)) ∧ Below w3.heap.size w3 w'))
             (first | assumption | exact HK.out.start | exact HK.out.call (by assumption) (by assumption) | exact HK.out.alloc (by assumption) _)
             (first
             | (go_at_call 34; refine (HC.out _ (HBel.out _ (by assumption))).mono ?_; rintro e w4 ⟨rfl, hb4⟩))
           all_goals
             clear hwr
             go_wp2_with fail
             go_ret
             exact ⟨ret_bool (Hfalse.out hfin.out), hbel.trans ((HBel.out _ (by assumption)).mono hsz)⟩
         ·have gk : (pk != xk) = true := by simpa using hkk
          have Hkk2 := Yq hkk; clear hkk
          have hfin : Hid (ekeys none fs = false) := by show _ = _; rw [Hinv.out, Hd.out, Hlst.out]; simp [← Hpk.out, Hkk2.out]
          have hd0 : w3.cell? ⟨b1, o1, none⟩ = some (.int .i64 pk) := by have := hr1 0 _ rfl; rwa [Nat.add_zero] at this
          go_quiet (fail)
          go_wp2_with fail
          go_ret
          exact ⟨ret_bool (Hfalse.out hfin.out), Below.drewN hbw3 _⟩)
  ·obtain rfl : k = n := by omega
   go_wp2_with fail
   go_ret
   refine ⟨ret_bool ?_, hbel⟩
   rw [Hinv.out, ← Hm.out, List.drop_length, ekeys]
   simp
def Val.sameB (a b : V) : Bool := decide (cmp a b = 0)
def Val.ekeysAll (ks : List (V × E)) : Bool := decide (0 < ks.length) && ekeys none ks
theorem Val.eright_all (x : E) : eright x = (x.bare && (if x.kind = 0 then true else if x.kind = 1 then right x.old && (right x.new && !Val.sameB x.old x.new) else if x.kind = 2 then Val.efieldsAll x else
  if x.kind = 3 then esteps 0 false x.steps else if x.kind = 4 then Val.ekeysAll x.keys else false)) := by
 cases x
 rw [eright]; rfl
theorem eright_step (N : Nat) (ih : ERightAt N) : ERightAt (N + 1) := by
 intro x xc w hs hz hx
 have hsz := esm_sum hz
 have HR := Yq (fun (wx : World) (hb : Below w.heap.size w wx) => ebare_any x xc wx (hx.mono (below_le hb)) hsz)
 have HF := Yq (fun (wx : World) (hb : Below w.heap.size w wx) => efields_at N ih x xc wx (fun e he => by have := Val.esize_field (x := x) (m := e.1) (e := e.2) he; omega) hz (hx.mono (below_le hb)))
 have HL := Yq hx.shape.len
 have Hp := Yq (Val.eright_all x)
 obtain ⟨k, o, n, f, r, ro, rn, s, ks⟩ := x
 rw [esm] at hz
 rw [ER] at hx
 obtain ⟨oc, nc, fv, sv, kv, fe, se, ke, hxc, _, ⟨h3, h4⟩, ⟨h5, h6, h7⟩, h8, h9, h10⟩ := hx
 have HS := Yq (fun (wx : World) (hb : Below w.heap.size w wx) => esteps_at N ih s se sv wx (fun e he => by have := Val.esize_step (x := .mk k o n f r ro rn s ks) (k := e.1) (c := e.2.1) (v := e.2.2.1) (e := e.2.2.2) he; omega) hz.2.2.1 (h6.mono (below_le hb)) (h9.mono (below_le hb)))
 have hK : ∀ (wx : World), Below w.heap.size w wx → Calls Tryz.prog 24 #[kv] wx fun e w' => e = .returned (.bool (Val.ekeysAll ks)) ∧ Below wx.heap.size wx w' := (fun (wx : World) (hb : Below w.heap.size w wx) => ekeys_at N ih ks ke kv wx (fun e he => by have := Val.esize_key (x := .mk k o n f r ro rn s ks) (k := e.1) (e := e.2) he; omega) hz.2.2.2 (h7.mono (below_le hb)) (h10.mono (below_le hb)))
 have HVo := Yq (fun (wx : World) (hb : Below w.heap.size w wx) => right_any o oc wx (h3.mono (below_le hb)))
 have HVn := Yq (fun (wx : World) (hb : Below w.heap.size w wx) => right_any n nc wx (h4.mono (below_le hb)))
 have hVs : ∀ (wx : World), Below w.heap.size w wx → Calls Tryz.prog 13 #[.agg oc.toArray, .agg nc.toArray] wx fun e w' => e = .returned (.bool (Val.sameB o n)) ∧ Below wx.heap.size wx w' := (fun (wx : World) (hb : Below w.heap.size w wx) => same_any o n oc nc wx (h3.mono (below_le hb)) (h4.mono (below_le hb)))
 have HLo := Yq h3.len
 have HK := Yq hK; have HVs := Yq hVs
 have HLn := Yq h4.len
 obtain ⟨a1, c1, rfl, _⟩ := h5.len
 obtain ⟨a2, c2, rfl, _⟩ := h6.len
 obtain ⟨a3, c3, rfl, _⟩ := h7.len
 have HA := Yq (fun (w2 : World) (g : Nat) (hB : Blk w2 g xc) => EdAt.of h3.len h4.len (hxc ▸ hB))
 have HW := Yq (fun (w2 : World) (g : Nat) (hB : Blk w2 g xc) => hB.whole)
 clear hxc h3 h4 h5 h6 h7 h8 h9 h10 hsz hs hz ih hK hVs
 simp only [Val.E.kind, Val.E.old, Val.E.new, Val.E.steps, Val.E.keys] at Hp
 generalize (E.mk k o n f r ro rn s ks).bare = bb at *
 generalize right o = p1 at *
 generalize right n = p2 at *
 generalize Val.sameB o n = cm at *
 generalize Val.efieldsAll (E.mk k o n f r ro rn s ks) = p4 at *
 generalize esteps 0 false s = p5 at *
 generalize Val.ekeysAll ks = p6 at *
 go_enter Tryz.func9, Tryz.ntmps9
 go_wp2_with (first
  | (refine wpList_box_lay rfl _ _ rfl _ rfl ?_; (intro w0 g hg hB0 hb0; obtain ⟨r1, r8, q0, q15, q16, q17, q18, q19, q20⟩ := HA.out w0 g hB0; have r0 := HW.out w0 g hB0; have hz0 := hB0.lt))
  | (refine wpList_load_seg rfl 32 _ rfl _ _ rfl _ _ (by assumption) Tryz.underlying32 rfl (iC infoE HL) ?_)
  | (refine wpList_load_seg rfl 27 _ rfl _ _ rfl _ _ (by assumption) Tryz.underlying27 rfl ?_ ?_; (· first | exact iC infoV HLo | exact iC infoV HLn))
  | (go_at_call 20; refine (HR.out _ (by assumption)).mono ?_; rintro e w1 ⟨rfl, hb1⟩; replace hb0 := hb0.trans (hb1.mono hb0.size); replace hB0 := hB0.below hb1 hz0; replace hz0 := hB0.lt; clear hb1 r0 r1 r8 q0 q15 q16 q17 q18 q19 q20; obtain ⟨r1, r8, q0, q15, q16, q17, q18, q19, q20⟩ := HA.out _ _ hB0; have r0 := HW.out _ _ hB0)
  | (go_at_call 21; (first | (with_reducible refine (HVo.out _ (by assumption)).mono ?_) | (with_reducible refine (HVn.out _ (by assumption)).mono ?_)); rintro e w1 ⟨rfl, hb1⟩; replace hb0 := hb0.trans (hb1.mono hb0.size); replace hB0 := hB0.below hb1 hz0; replace hz0 := hB0.lt; clear hb1 r0 r1 r8 q0 q15 q16 q17 q18 q19 q20; obtain ⟨r1, r8, q0, q15, q16, q17, q18, q19, q20⟩ := HA.out _ _ hB0; have r0 := HW.out _ _ hB0)
  | (go_at_call 13; refine (HVs.out _ (by assumption)).mono ?_; rintro e w1 ⟨rfl, hb1⟩; replace hb0 := hb0.trans (hb1.mono hb0.size); clear hb1)
  | (go_at_call 22; refine (HF.out _ (by assumption)).mono ?_; rintro e w1 ⟨rfl, hb1⟩; replace hb0 := hb0.trans (hb1.mono hb0.size); clear hb1)
  | (go_at_call 23; refine (HS.out _ (by assumption)).mono ?_; rintro e w1 ⟨rfl, hb1⟩; replace hb0 := hb0.trans (hb1.mono hb0.size); clear hb1)
  | (go_at_call 24; refine (HK.out _ (by assumption)).mono ?_; rintro e w1 ⟨rfl, hb1⟩; replace hb0 := hb0.trans (hb1.mono hb0.size); clear hb1))
 all_goals
  go_ret
  refine ⟨ret_bool ?_, hb0⟩
  rw [Hp.out]
  clear HR HF HS HK HVo HVn HVs HA HW Hp hb0 HL HLo HLn
  clear hB0 hz0 hg
  simp_all
theorem eright_all : ∀ N, ERightAt N
 | 0 => fun x xc w hs => absurd hs (Nat.not_lt_zero _)
 | N + 1 => eright_step N (eright_all N)
theorem eright_any (x : E) (xc : List Value) (w : World) (hz : esm x) (hx : ER (frag w) x xc) :
  Calls Tryz.prog 9 #[.agg xc.toArray] w fun e w' => e = .returned (.bool (eright x)) ∧ Below w.heap.size w w' :=
 eright_all _ x xc w (Nat.lt_succ_self _) hz hx
end Go.Proofs.YtlmbcoecipbblaaGreatDoor
