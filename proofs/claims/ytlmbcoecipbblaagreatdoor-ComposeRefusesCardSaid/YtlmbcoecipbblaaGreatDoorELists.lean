/- edit.fields, edit.steps, walked. -/
import Derived.Test.YtlmbcoecipbblaaGreatDoorGpL
import Derived.Test.YtlmbcoecipbblaaGreatDoorGpE
set_option maxRecDepth 100000
set_option maxHeartbeats 2000000
set_option linter.unusedVariables false
set_option linter.unusedSimpArgs false
namespace Go.Proofs.YtlmbcoecipbblaaGreatDoor
open Go.RowKit
open Val (V E cmp right noneV partB bareE eright esome stepRight esm esmF esmS esmK efields esteps ekeys v0)
theorem Val.efields_drop {fs : List (Int × E)} {k : Nat} {m : Int} (h : k < fs.length) : efields m (fs.drop k) = (decide (m < fs[k].1 ∧ fs[k].1 ≤ 536870911) && esome fs[k].2 && efields fs[k].1 (fs.drop (k + 1))) := by
 rw [List.drop_eq_getElem_cons h]
 cases fs[k]
 rw [efields]; rfl
theorem Val.esteps_drop {fs : List (Int × Int × V × E)} {k : Nat} {m : Int} {ch : Bool} (h : k < fs.length) : esteps m ch (fs.drop k) = (stepRight fs[k].1 fs[k].2.1 fs[k].2.2.1 fs[k].2.2.2 && !(decide (m = 1 ∧ fs[k].1 = 1)) && !(decide (m = 3 ∧ fs[k].1 = 2)) && esteps fs[k].1 (ch || decide (fs[k].1 ≠ 1)) (fs.drop (k + 1))) := by
 rw [List.drop_eq_getElem_cons h]
 cases fs[k]
 rw [esteps]; rfl
theorem Ed21.cons {xc : List Value} (m : Int) (h : Ed21 xc) : (Value.int .i64 m :: xc).length = 22 ∧ ∀ u ∈ Value.int .i64 m :: xc, u.oneCell' = true := by
 refine ⟨by simp [h.len], fun u hu => ?_⟩
 rcases List.mem_cons.1 hu with rfl | hu
 ·rfl
 ·exact h.one u hu
theorem Val7.len {e : List Value} (h : Val7 e) : e.length = 7 := by
 obtain ⟨_, _, _, _, _, _, _, _, _, _, _, _, _, rfl⟩ := h
 rfl
theorem Val7.one {e : List Value} (h : Val7 e) : ∀ u ∈ e, u.oneCell' = true := by
 obtain ⟨_, _, _, _, _, _, _, _, _, _, _, _, _, rfl⟩ := h
 simp [Value.oneCell']
theorem step30 {vc xc : List Value} (k c : Int) (hv : Val7 vc) (h : Ed21 xc) : (Value.int .i64 k :: .int .i64 c :: (vc ++ xc)).length = 30 ∧ ∀ u ∈ Value.int .i64 k :: .int .i64 c :: (vc ++ xc), u.oneCell' = true := by
 refine ⟨by simp [h.len, hv.len], fun u hu => ?_⟩
 rcases List.mem_cons.1 hu with rfl | hu
 ·rfl
 ·rcases List.mem_cons.1 hu with rfl | hu
  ·rfl
  ·rcases List.mem_append.1 hu with hu | hu
   ·exact hv.one u hu
   ·exact h.one u hu
theorem esteps_at (N : Nat) (ih : ERightAt N) (fs : List (Int × Int × V × E)) (fe : List (List Value)) (v : Value) (w : World) (hs : ∀ e ∈ fs, SizeOf.sizeOf e.2.2.2 < N) (hz : esmS fs) (hv : FlatC 30 (frag w) v fe) (hf : ESs (frag w) fs fe) :
  Calls Tryz.prog 23 #[v] w fun e w' => e = .returned (.bool (esteps 0 false fs)) ∧ Below w.heap.size w w' := by
 obtain ⟨a, cap, rfl, hc1, hc2, _⟩ := hv.len
 have HX := Yq hv; have HF := Yq hf; have HS := Yq hs; have HZ := Yq hz
 have hlen := hf.len
 unfold maxLen at hc2
 clear hv hf hs hz
 obtain ⟨n, hn⟩ : ∃ n, n = fe.length := ⟨_, rfl⟩
 rw [← hn] at HX hc1 hlen ⊢
 have Hn := Yq hn.symm; have Hm := Yq hlen.symm; clear hn hlen
 go_enter Tryz.func23, Tryz.ntmps23
 go_wp2_with fail
 go_loopw [3, 4, 9] (fun c l i wr => ∃ (k : Nat) (la : Int) (ch : Bool), k ≤ n ∧ i = .int .i64 k ∧ l = .int .i64 la ∧ c = .bool ch ∧ Hid (esteps 0 false fs = esteps la ch (fs.drop k)) ∧ Below w.heap.size w wr) (fun _ _ i _ => n - (intOf i).toNat)
 case atStart => exact ⟨0, 0, false, Nat.zero_le _, rfl, rfl, rfl, (by show _ = _; simp), Below.refl _ _⟩
 case round =>
  obtain ⟨k, la, ch, hk, rfl, rfl, rfl, Hinv, hbel⟩ := hrel
  have hsz := hbel.size
  by_cases hlt : k < n
  ·have hks : k < fe.length := by rw [Hn.out]; exact hlt
   have hkf : k < fs.length := by rw [Hm.out]; exact hlt
   obtain ⟨b0, o0, hb0, hidx, hcell⟩ := FlatC.at (n := n) (cap := cap) (a := a) HX.out (by decide) (i := k) hks Tryz.underlying29 sizeES
   obtain ⟨vc, xc, hx, rv, rx⟩ := HF.out.at hkf hks
   have hr : wr.rangeAt b0 o0 fe[k] := range_below hcell hbel hb0
   rw [hx] at hr
   have H30 := step30 fs[k].1 fs[k].2.1 rv.shape rx.shape
   have HL := Yq H30.1
   have H1 := Yq H30.2
   have hI : ∀ (wx : World) (hb : Below wr.heap.size wr wx), Calls Tryz.prog 50 #[.agg (Value.int .i64 fs[k].1 :: .int .i64 fs[k].2.1 :: (vc ++ xc)).toArray] wx fun e w' => e = .returned (.bool (stepRight fs[k].1 fs[k].2.1 fs[k].2.2.1 fs[k].2.2.2)) ∧ Below wx.heap.size wx w' := fun (wx : World) (hb : Below wr.heap.size wr wx) =>
    have hle := (below_le hbel).trans (below_le hb)
    step_at N ih fs[k].1 fs[k].2.1 fs[k].2.2.1 fs[k].2.2.2 vc xc wx (HS.out _ (List.getElem_mem _)) (Val.esmS_at HZ.out _ (List.getElem_mem _)) (rv.mono hle) (rx.mono hle)
   have HI := Yq hI
   have HB := Yq (fun (w2 : World) (g : Nat) (hB : Blk w2 g (.int .i64 fs[k].1 :: .int .i64 fs[k].2.1 :: (vc ++ xc))) => And.intro (hB.cell (o := 0) (u := .int .i64 fs[k].1) rfl) hB.whole)
   have Hd := Yq (Val.esteps_drop (m := la) (ch := ch) hkf)
   clear hcell hx rv rx H30 hI
   generalize stepRight fs[k].1 fs[k].2.1 fs[k].2.2.1 fs[k].2.2.2 = sr at *
   generalize fs[k].1 = kd at *
   generalize fs[k].2.1 = ct at *
   go_wp2_with (first
    | (refine wpList_load_seg rfl 81 _ rfl _ _ rfl _ _ (by assumption) Tryz.underlying81 rfl (iC infoES HL) ?_)
    | (refine wpList_alloc_lay rfl 81 rfl zES zeroES ?_; (intro w1 g hg hB1 hb1; clear hr))
    | (refine wpList_store_all rfl 81 _ _ rfl _ _ rfl rfl zES (by assumption) ?_ ?_ ?_ ?_; (· exact iC infoES HL); (· exact HL.out); (· exact H1.out); (intro w2 hB2 hgr; have hb2 := Below.grown hb1 hgr hb1.size (fun _ e => by cases e; exact hg); obtain ⟨q0, r0⟩ := HB.out w2 _ hB2; have hz2 := hB2.lt; have hbw := hbel.trans (hb2.mono hsz); clear hb1 hgr hB1))
    | (go_at_call 50; refine (HI.out _ (by assumption)).mono ?_; rintro e w3 ⟨rfl, hb3⟩; replace hbw := hbw.trans (hb3.mono hbw.size); replace hB2 := hB2.below hb3 hz2; clear q0 r0 hb2 hb3 hz2; obtain ⟨q0, r0⟩ := HB.out _ _ hB2))
   all_goals
    clear HB HI H1 HL HX HF HS HZ q0 r0 hidx
    first
    | (go_ret
       refine ⟨ret_bool ?_, hbw⟩
       rw [Hinv.out, Hd.out]
       clear Hinv Hd hbw hB2 hbel hsz
       simp_all
       done)
    | (go_roundw
       case rel =>
         refine ⟨k + 1, kd, (ch || decide (kd ≠ 1)), by omega, by simp, rfl, ?_, ?_, hbw⟩
         ·clear Hinv Hd hbw hB2 hbel hsz
          (by_cases hkd : kd = 1) <;> simp_all
         ·show _ = _
          rw [Hinv.out, Hd.out]
          clear Hinv Hd hbw hB2 hbel hsz
          simp_all
       case measure => simp [intOf]; omega)
  ·obtain rfl : k = n := by omega
   go_wp2_with fail
   go_ret
   exact ⟨ret_bool (by rw [Hinv.out, ← Hm.out, List.drop_length, esteps]), hbel⟩
def Val.efieldsAll (x : E) : Bool := efields 0 x.fields && (decide (x.rests = decide (x.ro ≠ x.rn)) && ((x.rests || decide (x.ro.size = 0)) && (x.rests || decide (x.fields ≠ []))))
theorem toList_beq (a b : ByteArray) : (a.toList == b.toList) = decide (a = b) := by
 by_cases h : a = b
 ·subst h; simp
 ·rw [decide_eq_false h]
  simp only [beq_eq_false_iff_ne]
  exact fun e => h (Val.bytes_ext e)
theorem isEmpty_dec (a : ByteArray) : a.toList.isEmpty = decide (a.size = 0) := by
 by_cases h : a.size = 0
 ·rw [isEmpty_yes h, decide_eq_true h]
 ·rw [isEmpty_no h, decide_eq_false h]
theorem efields_at (N : Nat) (ih : ERightAt N) (x : E) (xc : List Value) (w : World) (hs : ∀ e ∈ x.fields, SizeOf.sizeOf e.2 < N) (hz : esm x) (hx : ER (frag w) x xc) :
  Calls Tryz.prog 22 #[.agg xc.toArray] w fun e w' => e = .returned (.bool (Val.efieldsAll x)) ∧ Below w.heap.size w w' := by
 obtain ⟨kd, o, nw, fs, r, ro, rn, s, ks⟩ := x
 rw [esm] at hz
 have HL21 := Yq hx.shape.len
 rw [ER] at hx
 obtain ⟨oc, nc, fv, sv, kv, fe, se, ke, rfl, hsz, ⟨h3, h4⟩, ⟨h5, h6, h7⟩, h8, h9, h10⟩ := hx
 obtain ⟨a1, c1, rfl, hc1, hc2, hcn⟩ := h5.len
 obtain ⟨a2, c2, rfl, _⟩ := h6.len
 obtain ⟨a3, c3, rfl, _⟩ := h7.len
 simp only [Val.E.fields] at hs
 have Hpost : Hid (Val.efieldsAll (.mk kd o nw fs r ro rn s ks) = (efields 0 fs && (decide (r = decide (ro ≠ rn)) && ((r || decide (ro.size = 0)) && (r || decide (fs ≠ [])))))) := rfl
 have HX := Yq h5; have HF := Yq h8; have HS := Yq hs; have HZ := Yq hz.2.1
 have hlen := h8.len
 unfold maxLen at hc2
 have HA := Yq (fun (w2 : World) (g : Nat) (hB : Blk w2 g (.int .i64 kd :: (oc ++ (nc ++ [.slice a1 fe.length c1, .bool r, .string ro, .string rn, .slice a2 se.length c2, .slice a3 ke.length c3])))) => EdAt.of h3.len h4.len hB)
 clear h3 h4 h5 h6 h7 h8 h9 h10 hs hz hsz
 generalize se.length = n2 at *
 generalize ke.length = n3 at *
 obtain ⟨n, hn⟩ : ∃ n, n = fe.length := ⟨_, rfl⟩
 rw [← hn] at HX HA HL21 hc1 hlen ⊢
 have Hn := Yq hn.symm; have Hm := Yq hlen.symm; clear hn hlen
 generalize hxc : (Value.int .i64 kd :: (oc ++ (nc ++ [.slice a1 n c1, .bool r, .string ro, .string rn, .slice a2 n2 c2, .slice a3 n3 c3]))) = xc at *
 clear hxc
 go_enter Tryz.func22, Tryz.ntmps22
 go_wp2_with (first
  | (refine wpList_box_lay rfl _ _ rfl _ rfl ?_; (intro w0 g0 hg0 hB0 hb0; have HB0 := Yq hB0; have hz0 := hB0.lt; obtain ⟨r1, r8, q0, q15, q16, q17, q18, q19, q20⟩ := HA.out w0 g0 hB0; clear hB0)))
 clear r1 r8 q0 q15 q16 q17 q18 q19 q20
 have Hb0 := Yq hb0; clear hb0
 go_loopw [3, 9] (fun l i wr => ∃ (k : Nat) (la : Int), k ≤ n ∧ i = .int .i64 k ∧ l = .int .i64 la ∧ Hid (0 ≤ la ∧ (0 < la ↔ 0 < k)) ∧ Hid (efields 0 fs = efields la (fs.drop k)) ∧ Below w0.heap.size w0 wr) (fun _ i _ => n - (intOf i).toNat)
 case atStart => exact ⟨0, 0, Nat.zero_le _, rfl, rfl, (show _ ∧ _ by simp), (by show _ = _; simp), Below.refl _ _⟩
 case round =>
  obtain ⟨k, la, hk, rfl, rfl, Hla, Hinv, hbel⟩ := hrel
  have hsz := hbel.size
  by_cases hlt : k < n
  ·have hks : k < fe.length := by rw [Hn.out]; exact hlt
   have hkf : k < fs.length := by rw [Hm.out]; exact hlt
   obtain ⟨b0, o0, hb0, hidx, hcell⟩ := FlatC.at (n := n) (cap := c1) (a := a1) HX.out (by decide) (i := k) hks Tryz.underlying28 sizeEF
   obtain ⟨yc, hx, rx⟩ := HF.out.at hkf hks
   have hbw0 := Hb0.out.trans (hbel.mono Hb0.out.size)
   have hr : wr.rangeAt b0 o0 fe[k] := range_below hcell hbw0 hb0
   rw [hx] at hr
   have HL := Yq (rx.shape.cons fs[k].1).1
   have H1 := Yq (rx.shape.cons fs[k].1).2
   have HLy := Yq rx.shape.len
   have HI := Yq (fun (wx : World) (hb : Below wr.heap.size wr wx) => some_at N ih fs[k].2 yc wx (HS.out _ (List.getElem_mem _)) (Val.esmF_at HZ.out _ (List.getElem_mem _)) (rx.mono ((below_le hbw0).trans (below_le hb))))
   have HB := Yq (fun (w2 : World) (g : Nat) (hB : Blk w2 g (.int .i64 fs[k].1 :: yc)) => And.intro (hB.cell (o := 0) (u := .int .i64 fs[k].1) rfl) (hB.range (p := [.int .i64 fs[k].1]) (q := yc) (r := []) (by simp) rfl))
   have Hd := Yq (Val.efields_drop (m := la) hkf)
   clear hcell hx rx hbw0
   generalize esome fs[k].2 = sr at *
   generalize fs[k].1 = nm at *
   go_wp2_with (first
    | (refine wpList_load_seg rfl 60 _ rfl _ _ rfl _ _ (by assumption) Tryz.underlying60 rfl (iC infoEF HL) ?_)
    | (refine wpList_load_seg rfl 32 _ rfl _ _ rfl _ _ (by assumption) Tryz.underlying32 rfl (iC infoE HLy) ?_)
    | (refine wpList_alloc_lay rfl 60 rfl (.int .i64 0 :: zE) zeroEF ?_; (intro w1 g hg hB1 hb1; clear hr))
    | (refine wpList_store_all rfl 60 _ _ rfl _ _ rfl rfl (.int .i64 0 :: zE) (by assumption) ?_ ?_ ?_ ?_; (· exact iC infoEF HL); (· exact HL.out); (· exact H1.out); (intro w2 hB2 hgr; have hb2 := Below.grown hb1 hgr hb1.size (fun _ e => by cases e; exact hg); obtain ⟨q0, r0⟩ := HB.out w2 _ hB2; have hz2 := hB2.lt; have hbw := hbel.trans (hb2.mono hsz); clear hb1 hgr hB1))
    | (go_at_call 49; refine (HI.out _ (by assumption)).mono ?_; rintro e w3 ⟨rfl, hb3⟩; replace hbw := hbw.trans (hb3.mono hbw.size); replace hB2 := hB2.below hb3 hz2; clear q0 r0 hb2 hb3 hz2; obtain ⟨q0, r0⟩ := HB.out _ _ hB2))
   all_goals
    clear HB HI H1 HL HX HF HS HZ q0 r0 hidx HLy
    first
    | (go_ret
       refine ⟨ret_bool ?_, Hb0.out.trans (hbw.mono Hb0.out.size)⟩
       rw [Hpost.out, Hinv.out, Hd.out]
       have e : decide (la < nm ∧ nm ≤ 536870911) = false := decide_eq_false (by omega)
       rw [e]
       rfl)
    | (go_ret
       refine ⟨ret_bool ?_, Hb0.out.trans (hbw.mono Hb0.out.size)⟩
       rw [Hpost.out, Hinv.out, Hd.out]
       have e : (!sr) = true := by assumption
       have e : sr = false := by simpa using e
       rw [e]
       simp)
    | (go_roundw
       case rel =>
         refine ⟨k + 1, nm, by omega, by simp, rfl, ?_, ?_, hbw⟩
         ·have := Hla.out
          show _ ∧ _
          omega
         ·show _ = _
          have e : decide (la < nm ∧ nm ≤ 536870911) = true := decide_eq_true (by omega)
          have e2 : (!sr) = false := by assumption
          have e2 : sr = true := by simpa using e2
          rw [Hinv.out, Hd.out, e, e2]
          simp
       case measure => simp [intOf]; omega)
  ·obtain rfl : k = n := by omega
   obtain ⟨r1, r8, q0, q15, q16, q17, q18, q19, q20⟩ := HA.out wr g0 (HB0.out.below hbel hz0)
   have hfin : Hid (efields 0 fs = true) := by show _ = _; rw [Hinv.out, ← Hm.out, List.drop_length, efields]
   have hne : Hid (decide (fs ≠ []) = decide (0 < la)) := by
    have h1 := Hla.out.2; have h2 := Hm.out
    show _ = _
    cases fs with
    | nil =>
     rw [List.length_nil] at h2
     rw [decide_eq_false (by omega : ¬ 0 < la)]; rfl
    | cons e q => rw [decide_eq_true (show 0 < la from h1.2 (by rw [← h2]; simp))]; rfl
   have hq : Hid (decide (ro ≠ rn) = !(ro.toList == rn.toList)) := by show _ = _; rw [toList_beq]; simp
   have hs2 : Hid (decide (ro.size = 0) = ro.toList.isEmpty) := (isEmpty_dec ro).symm
   rw [hne.out, hs2.out, hq.out, hfin.out] at Hpost
   clear hne hs2 hq hfin
   have hbel0 := Hb0.out.trans (hbel.mono Hb0.out.size)
   go_wp2_with fail
   all_goals
    go_ret
    refine ⟨ret_bool ?_, hbel0⟩
    rw [Hpost.out]
    clear Hpost Hla Hinv hbel0 hbel HX HA HL21 HF HS HZ r1 r8 q0 q15 q16 q17 q18 q19 q20 HB0 Hb0 Hn Hm
    simp_all
end Go.Proofs.YtlmbcoecipbblaaGreatDoor
