/- law21.great, walked. -/
import Derived.Test.YtebekgdjknenlaaGreatDoorGpBB
set_option maxRecDepth 100000
set_option maxHeartbeats 1000000
set_option linter.unusedVariables false
set_option linter.unusedSimpArgs false
namespace Go.Proofs.YtebekgdjknenlaaGreatDoor
open Go.RowKit
open Val (V E gr grF grL grP dec ge geF geS geK esm)
theorem geF_drop {f : List (Int × E)} {k : Nat} (h : k < f.length) (d l : Int) : geF (f.drop k) d l = geF (f.drop (k + 1)) d (dec l (ge f[k].2 l d)) := by
 rw [List.drop_eq_getElem_cons h]
 generalize f[k] = q
 obtain ⟨a, b⟩ := q
 rw [geF]
theorem geS_drop {f : List (Int × Int × V × E)} {k : Nat} (h : k < f.length) (d l : Int) : geS (f.drop k) d l = if 0 ≤ l ∧ (gr f[k].2.2.1 60 30 < 0 ∨ 2097152 < f[k].2.1) then none else geS (f.drop (k + 1)) d (dec l (ge f[k].2.2.2 l d)) := by
 rw [List.drop_eq_getElem_cons h]
 generalize f[k] = q
 obtain ⟨a, b, c, e⟩ := q
 rw [geS]
theorem geK_drop {f : List (V × E)} {k : Nat} (h : k < f.length) (d l : Int) : geK (f.drop k) d l = if 0 ≤ l ∧ gr f[k].1 20 30 < 0 then -1 else geK (f.drop (k + 1)) d (dec l (ge f[k].2 l d)) := by
 rw [List.drop_eq_getElem_cons h]
 generalize f[k] = q
 obtain ⟨a, b⟩ := q
 rw [geK]
def geM (ks : List (V × E)) (d : Int) : Option Int → Int
 | none => -1
 | some l => geK ks d l
def Great21At (N : Nat) : Prop := ∀ (x : E) (xc : List Value) (w : World) (left deep : Int), SizeOf.sizeOf x < N → ER (frag w) x xc → 0 ≤ left → left ≤ 1000 → 0 ≤ deep → deep ≤ 30 →
 Calls Tryz.prog 15 #[.agg xc.toArray, .int .i64 left, .int .i64 deep] w fun e w' => e = .returned (.int .i64 (ge x left deep)) ∧ Below w.heap.size w w'
theorem great21_at (N : Nat) (ih : Great21At N) (x : E) (xc : List Value) (w : World) (left deep : Int) (hs : SizeOf.sizeOf x < N + 1) (hx : ER (frag w) x xc) (hl0 : 0 ≤ left) (hl1 : left ≤ 1000) (hp0 : 0 ≤ deep) (hp1 : deep ≤ 30) :
  Calls Tryz.prog 15 #[.agg xc.toArray, .int .i64 left, .int .i64 deep] w fun e w' => e = .returned (.int .i64 (ge x left deep)) ∧ Below w.heap.size w w' := by
 have hsF : ∀ s ∈ x.fields, SizeOf.sizeOf s.2 < N := fun s h => by have := Val.esize_field (x := x) (m := s.1) (e := s.2) h; omega
 have hsS : ∀ s ∈ x.steps, SizeOf.sizeOf s.2.2.2 < N := fun s h => by have := Val.esize_step (x := x) (k := s.1) (c := s.2.1) (v := s.2.2.1) (e := s.2.2.2) h; omega
 have hsK : ∀ s ∈ x.keys, SizeOf.sizeOf s.2 < N := fun s h => by have := Val.esize_key (x := x) (k := s.1) (e := s.2) h; omega
 obtain ⟨kd, o, nw, f, r, ro, rn, s, ks⟩ := x
 simp only [Val.E.fields, Val.E.steps, Val.E.keys] at hsF hsS hsK
 rw [ER] at hx
 obtain ⟨oc, nc, fv, sv, kv, fe, se, ke, rfl, hsz, ⟨h3, h4⟩, ⟨h5, h6, h7⟩, h8, h9, h10⟩ := hx
 obtain ⟨a1, c1, rfl, hc1, hd1, _⟩ := h5.len
 obtain ⟨a2, c2, rfl, hc2, hd2, _⟩ := h6.len
 obtain ⟨a3, c3, rfl, hc3, hd3, _⟩ := h7.len
 have HSF := Yq hsF; have HSL := Yq hsS; have HSP := Yq hsK
 have H3 := Yq h5; have H4 := Yq h6; have H5 := Yq h7
 have H6 := Yq h8; have H7 := Yq h9; have H8 := Yq h10
 have hln1 := h8.len; have hln2 := h9.len; have hln3 := h10.len
 have HLo := Yq h3.len; have HLn := Yq h4.len
 have HCo := Yq (fun (wx : World) (hb : Below w.heap.size w wx) => Great13_any o oc wx 60 (h3.mono (below_le hb)) (by decide) (by decide))
 have HCn := Yq (fun (wx : World) (hb : Below w.heap.size w wx) => Great13_any nw nc wx 60 (h4.mono (below_le hb)) (by decide) (by decide))
 have HA := Yq (fun (w2 : World) (g : Nat) (hB : Blk w2 g (.int .i64 kd :: (oc ++ (nc ++ [.slice a1 fe.length c1, .bool r, .string ro, .string rn, .slice a2 se.length c2, .slice a3 ke.length c3])))) => EdAt.of h3.len h4.len hB)
 unfold maxLen at hd1 hd2 hd3
 clear h3 h4 h5 h6 h7 h8 h9 h10 hs hsF hsS hsK hsz
 obtain ⟨n1, hn1⟩ : ∃ n1, n1 = fe.length := ⟨_, rfl⟩
 obtain ⟨n2, hn2⟩ : ∃ n2, n2 = se.length := ⟨_, rfl⟩
 obtain ⟨n3, hn3⟩ : ∃ n3, n3 = ke.length := ⟨_, rfl⟩
 rw [← hn1] at H3 hc1 hln1
 rw [← hn2] at H4 hc2 hln2
 rw [← hn3] at H5 hc3 hln3
 rw [← hn1, ← hn2, ← hn3] at HA
 have Hn1 := Yq hn1.symm; have Hm1 := Yq hln1.symm
 have Hn2 := Yq hn2.symm; have Hm2 := Yq hln2.symm
 have Hn3 := Yq hn3.symm; have Hm3 := Yq hln3.symm
 rw [← hn1, ← hn2, ← hn3]
 clear hn1 hn2 hn3 hln1 hln2 hln3
 generalize hxc : (Value.int .i64 kd :: (oc ++ (nc ++ [.slice a1 n1 c1, .bool r, .string ro, .string rn, .slice a2 n2 c2, .slice a3 n3 c3]))) = xc at *
 clear hxc
 by_cases hg : deep = 0 ∨ 300 < ro.size ∨ 300 < rn.size ∨ gr o 60 30 < 0 ∨ gr nw 60 30 < 0
 ·have HK : Hid (ge (.mk kd o nw f r ro rn s ks) left deep = -1) := by show _ = _; rw [ge]; exact if_pos hg
  rw [HK.out]
  clear HK
  have hg5 : deep = 0 ∨ (deep ≠ 0 ∧ 300 < ro.size) ∨ (deep ≠ 0 ∧ ¬ 300 < ro.size ∧ 300 < rn.size) ∨ (deep ≠ 0 ∧ ¬ 300 < ro.size ∧ ¬ 300 < rn.size ∧ gr o 60 30 < 0) ∨ (deep ≠ 0 ∧ ¬ 300 < ro.size ∧ ¬ 300 < rn.size ∧ ¬ gr o 60 30 < 0 ∧ gr nw 60 30 < 0) := by omega
  clear hg
  rcases hg5 with hg | ⟨g0, g1⟩ | ⟨g0, g1, g2⟩ | ⟨g0, g1, g2, g3⟩ | ⟨g0, g1, g2, g3, g4⟩
  ·subst hg
   go_enter Tryz.func15, Tryz.ntmps15
   go_wp2_with (first
    | (refine wpList_box_lay rfl 32 _ rfl _ rfl ?_; (intro w0 g0 hg0 hB0 hb0; obtain ⟨r1, r8, q0, q15, q16, q17, q18, q19, q20⟩ := HA.out _ _ hB0))
    | (refine wpList_load_seg rfl 27 _ rfl _ _ rfl _ _ (by assumption) Tryz.underlying27 rfl ?_ ?_; (· first | exact iC infoV HLo | exact iC infoV HLn))
    | (go_at_call 6; (with_reducible first | refine (HCo.out _ hb0).mono ?_ | refine (HCn.out _ hb0).mono ?_); rintro e w3 ⟨rfl, hb3⟩; replace hb0 := hb0.trans (hb3.mono hb0.size); replace hB0 := hB0.below hb3 hB0.lt; clear r1 r8 q0 q15 q16 q17 q18 q19 q20 hb3; obtain ⟨r1, r8, q0, q15, q16, q17, q18, q19, q20⟩ := HA.out _ _ hB0))
   go_ret
   exact ⟨rfl, hb0⟩
  ·have d0 : decide (deep = 0) = false := decide_eq_false g0
   have d1 : decide (300 < ro.size) = true := decide_eq_true g1
   have d2 : decide ((300 : Int) < (ro.size : Int)) = true := decide_eq_true (by omega)
   go_enter Tryz.func15, Tryz.ntmps15
   go_wp2_with (first
    | (refine wpList_box_lay rfl 32 _ rfl _ rfl ?_; (intro w0 g0 hg0 hB0 hb0; obtain ⟨r1, r8, q0, q15, q16, q17, q18, q19, q20⟩ := HA.out _ _ hB0))
    | (refine wpList_load_seg rfl 27 _ rfl _ _ rfl _ _ (by assumption) Tryz.underlying27 rfl ?_ ?_; (· first | exact iC infoV HLo | exact iC infoV HLn))
    | (go_at_call 6; (with_reducible first | refine (HCo.out _ hb0).mono ?_ | refine (HCn.out _ hb0).mono ?_); rintro e w3 ⟨rfl, hb3⟩; replace hb0 := hb0.trans (hb3.mono hb0.size); replace hB0 := hB0.below hb3 hB0.lt; clear r1 r8 q0 q15 q16 q17 q18 q19 q20 hb3; obtain ⟨r1, r8, q0, q15, q16, q17, q18, q19, q20⟩ := HA.out _ _ hB0))
   go_ret
   exact ⟨rfl, hb0⟩
  ·have d0 : decide (deep = 0) = false := decide_eq_false g0
   have d1 : decide (300 < ro.size) = false := decide_eq_false g1
   have d2 : decide ((300 : Int) < (ro.size : Int)) = false := decide_eq_false (by omega)
   have d3 : decide (300 < rn.size) = true := decide_eq_true g2
   have d4 : decide ((300 : Int) < (rn.size : Int)) = true := decide_eq_true (by omega)
   go_enter Tryz.func15, Tryz.ntmps15
   go_wp2_with (first
    | (refine wpList_box_lay rfl 32 _ rfl _ rfl ?_; (intro w0 g0 hg0 hB0 hb0; obtain ⟨r1, r8, q0, q15, q16, q17, q18, q19, q20⟩ := HA.out _ _ hB0))
    | (refine wpList_load_seg rfl 27 _ rfl _ _ rfl _ _ (by assumption) Tryz.underlying27 rfl ?_ ?_; (· first | exact iC infoV HLo | exact iC infoV HLn))
    | (go_at_call 6; (with_reducible first | refine (HCo.out _ hb0).mono ?_ | refine (HCn.out _ hb0).mono ?_); rintro e w3 ⟨rfl, hb3⟩; replace hb0 := hb0.trans (hb3.mono hb0.size); replace hB0 := hB0.below hb3 hB0.lt; clear r1 r8 q0 q15 q16 q17 q18 q19 q20 hb3; obtain ⟨r1, r8, q0, q15, q16, q17, q18, q19, q20⟩ := HA.out _ _ hB0))
   go_ret
   exact ⟨rfl, hb0⟩
  ·have d0 : decide (deep = 0) = false := decide_eq_false g0
   have d1 : decide (300 < ro.size) = false := decide_eq_false g1
   have d2 : decide ((300 : Int) < (ro.size : Int)) = false := decide_eq_false (by omega)
   have d3 : decide (300 < rn.size) = false := decide_eq_false g2
   have d4 : decide ((300 : Int) < (rn.size : Int)) = false := decide_eq_false (by omega)
   rw [decide_eq_true g3] at HCo
   go_enter Tryz.func15, Tryz.ntmps15
   go_wp2_with (first
    | (refine wpList_box_lay rfl 32 _ rfl _ rfl ?_; (intro w0 g0 hg0 hB0 hb0; obtain ⟨r1, r8, q0, q15, q16, q17, q18, q19, q20⟩ := HA.out _ _ hB0))
    | (refine wpList_load_seg rfl 27 _ rfl _ _ rfl _ _ (by assumption) Tryz.underlying27 rfl ?_ ?_; (· first | exact iC infoV HLo | exact iC infoV HLn))
    | (go_at_call 6; (with_reducible first | refine (HCo.out _ hb0).mono ?_ | refine (HCn.out _ hb0).mono ?_); rintro e w3 ⟨rfl, hb3⟩; replace hb0 := hb0.trans (hb3.mono hb0.size); replace hB0 := hB0.below hb3 hB0.lt; clear r1 r8 q0 q15 q16 q17 q18 q19 q20 hb3; obtain ⟨r1, r8, q0, q15, q16, q17, q18, q19, q20⟩ := HA.out _ _ hB0))
   go_ret
   exact ⟨rfl, hb0⟩
  ·have d0 : decide (deep = 0) = false := decide_eq_false g0
   have d1 : decide (300 < ro.size) = false := decide_eq_false g1
   have d2 : decide ((300 : Int) < (ro.size : Int)) = false := decide_eq_false (by omega)
   have d3 : decide (300 < rn.size) = false := decide_eq_false g2
   have d4 : decide ((300 : Int) < (rn.size : Int)) = false := decide_eq_false (by omega)
   rw [decide_eq_false g3] at HCo
   rw [decide_eq_true g4] at HCn
   go_enter Tryz.func15, Tryz.ntmps15
   go_wp2_with (first
    | (refine wpList_box_lay rfl 32 _ rfl _ rfl ?_; (intro w0 g0 hg0 hB0 hb0; obtain ⟨r1, r8, q0, q15, q16, q17, q18, q19, q20⟩ := HA.out _ _ hB0))
    | (refine wpList_load_seg rfl 27 _ rfl _ _ rfl _ _ (by assumption) Tryz.underlying27 rfl ?_ ?_; (· first | exact iC infoV HLo | exact iC infoV HLn))
    | (go_at_call 6; (with_reducible first | refine (HCo.out _ hb0).mono ?_ | refine (HCn.out _ hb0).mono ?_); rintro e w3 ⟨rfl, hb3⟩; replace hb0 := hb0.trans (hb3.mono hb0.size); replace hB0 := hB0.below hb3 hB0.lt; clear r1 r8 q0 q15 q16 q17 q18 q19 q20 hb3; obtain ⟨r1, r8, q0, q15, q16, q17, q18, q19, q20⟩ := HA.out _ _ hB0))
   go_ret
   exact ⟨rfl, hb0⟩
 ·have HK : Hid (ge (.mk kd o nw f r ro rn s ks) left deep = geM ks (deep - 1) (geS s (deep - 1) (geF f (deep - 1) (left - 1)))) := by
   show _ = _
   rw [ge, if_neg hg]
   cases geS s (deep - 1) (geF f (deep - 1) (left - 1)) <;> rfl
  rw [HK.out]
  clear HK
  obtain ⟨lf, hlf⟩ : ∃ lf, lf = geF f (deep - 1) (left - 1) := ⟨_, rfl⟩
  rw [← hlf]
  obtain ⟨res, hres⟩ : ∃ res, res = geM ks (deep - 1) (geS s (deep - 1) lf) := ⟨_, rfl⟩
  rw [← hres]
  have Hlf := Yq hlf
  have Hres := Yq hres
  clear hlf hres
  have g0 : ¬ deep = 0 := by omega
  have d0 : decide (deep = 0) = false := decide_eq_false g0
  have d1 : decide (300 < ro.size) = false := decide_eq_false (by omega)
  have d2 : decide ((300 : Int) < (ro.size : Int)) = false := decide_eq_false (by omega)
  have d3 : decide (300 < rn.size) = false := decide_eq_false (by omega)
  have d4 : decide ((300 : Int) < (rn.size : Int)) = false := decide_eq_false (by omega)
  rw [decide_eq_false (show ¬ gr o 60 30 < 0 by omega)] at HCo
  rw [decide_eq_false (show ¬ gr nw 60 30 < 0 by omega)] at HCn
  clear hg
  go_enter Tryz.func15, Tryz.ntmps15
  go_wp2_with (first
   | (refine wpList_box_lay rfl 32 _ rfl _ rfl ?_; (intro w0 g0 hg0 hB0 hb0; obtain ⟨r1, r8, q0, q15, q16, q17, q18, q19, q20⟩ := HA.out _ _ hB0))
   | (refine wpList_load_seg rfl 27 _ rfl _ _ rfl _ _ (by assumption) Tryz.underlying27 rfl ?_ ?_; (· first | exact iC infoV HLo | exact iC infoV HLn))
   | (go_at_call 6; (with_reducible first | refine (HCo.out _ hb0).mono ?_ | refine (HCn.out _ hb0).mono ?_); rintro e w3 ⟨rfl, hb3⟩; replace hb0 := hb0.trans (hb3.mono hb0.size); replace hB0 := hB0.below hb3 hB0.lt; clear r1 r8 q0 q15 q16 q17 q18 q19 q20 hb3; obtain ⟨r1, r8, q0, q15, q16, q17, q18, q19, q20⟩ := HA.out _ _ hB0))
  have HB0 := Yq hB0
  clear r1 r8 q0 q15 q16 q17 q18 q19 q20 d0 d1 d2 d3 d4 hB0
  go_loopw [1, 42] (fun lv i wr => ∃ (k : Nat) (la : Int), k ≤ n1 ∧ i = .int .i64 k ∧ lv = .int .i64 la ∧ (-1 ≤ la ∧ la ≤ 1000) ∧ Hid (lf = geF (f.drop k) (deep - 1) la) ∧ Below w.heap.size w wr ∧ Hid (Blk wr g0 xc)) (fun _ i _ => n1 - (intOf i).toNat)
  case atStart => exact ⟨0, _, Nat.zero_le _, rfl, rfl, ⟨by omega, by omega⟩, (by show _ = _; rw [Hlf.out]; simp), hb0, HB0⟩
  case round =>
   obtain ⟨k, la, hk, rfl, rfl, ⟨hla0, hla1⟩, Hinv, hbel, HBr⟩ := hrel
   have hsz := hbel.size
   by_cases hlt : k < n1
   ·have hks : k < fe.length := by rw [Hn1.out]; exact hlt
    have hkf : k < f.length := by rw [Hm1.out]; exact hlt
    have Hd := Yq (geF_drop hkf (deep - 1) la)
    have HSZ := Yq (HSF.out _ (List.getElem_mem hkf))
    obtain ⟨b0, o0, hb0', hidx, hcell⟩ := FlatC.at (n := n1) (cap := c1) (a := a1) H3.out (by decide) (i := k) hks Tryz.underlying28 sizeEF
    have hr : wr.rangeAt b0 o0 fe[k] := range_below hcell hbel hb0'
    have hbr := below_le hbel
    obtain ⟨xc', hx, rx⟩ := H6.out.at hkf hks
    rw [hx] at hr
    have HRX := Yq rx
    have H30 := rx.shape.cons f[k].1
    have HL := Yq H30.1
    have H1 := Yq H30.2
    have HLx := Yq rx.shape.len
    have HBs := Yq (fun (w2 : World) (g : Nat) (hB : Blk w2 g (.int .i64 f[k].1 :: xc')) => (show w2.rangeAt g 1 xc' from hB.range (p := [.int .i64 f[k].1]) (q := xc') (r := []) (by simp) rfl))
    clear hcell hx rx H30
    by_cases hpos : 0 ≤ la
    ·have hrg := Val.ge_le f[k].2 la (deep - 1) hpos
     have HC : Hid (∀ (wx : World), Below wr.heap.size wr wx → Calls Tryz.prog 15 #[.agg xc'.toArray, .int .i64 la, .int .i64 (deep - 1)] wx fun e w' => e = .returned (.int .i64 (ge f[k].2 la (deep - 1))) ∧ Below wx.heap.size wx w') := fun wx hb =>
      ih f[k].2 xc' wx la (deep - 1) HSZ.out (HRX.out.mono (hbr.trans (below_le hb))) hpos hla1 (by omega) (by omega)
     rw [dec_pos hpos] at Hd
     generalize ge f[k].2 la (deep - 1) = lb at *
     generalize f[k].1 = fnum at *
     go_wp2_with (first
      | (refine wpList_load_seg rfl 74 _ rfl _ _ rfl _ _ hr Tryz.underlying74 rfl (iC infoEF HL) ?_)
      | (refine wpList_load_seg rfl 32 _ rfl _ _ rfl _ _ (by assumption) Tryz.underlying32 rfl (iC infoE HLx) ?_)
      | (refine wpList_alloc_lay rfl 74 rfl (.int .i64 0 :: zE) zeroEF ?_; (intro w1 g hg hB1 hb1; clear hr))
      | (refine wpList_store_all rfl 74 _ _ rfl _ _ rfl rfl (.int .i64 0 :: zE) (by assumption) ?_ ?_ ?_ ?_; (· exact iC infoEF HL); (· exact HL.out); (· exact H1.out); (intro w2 hB2 hgr; have hb2 := Below.grown hb1 hgr hb1.size (fun _ e => by cases e; exact hg); have r1 := HBs.out w2 _ hB2; clear hb1 hgr hB1 hB2))
      | (go_at_call 15; (with_reducible refine (HC.out _ hb2).mono ?_); rintro e w3 ⟨rfl, hb3⟩; have hbw := hbel.trans ((hb2.trans (hb3.mono hb2.size)).mono hsz); have HB3 := Yq (HBr.out.below (hb2.trans (hb3.mono hb2.size)) HBr.out.lt); clear hb2 hb3 r1))
     go_roundw
     case rel => exact ⟨k + 1, lb, by omega, by go_num, rfl, ⟨by omega, by omega⟩, Hinv.out.trans Hd.out, hbw, HB3⟩
     case measure => simp [intOf]; omega
    ·have hpn : la = -1 := by omega
     rw [dec_neg hpos] at Hd
     clear hpos
     subst hpn
     generalize f[k].1 = fnum at *
     go_wp2_with (first
      | (refine wpList_load_seg rfl 74 _ rfl _ _ rfl _ _ hr Tryz.underlying74 rfl (iC infoEF HL) ?_)
      | (refine wpList_alloc_lay rfl 74 rfl (.int .i64 0 :: zE) zeroEF ?_; (intro w1 g hg hB1 hb1; clear hr))
      | (refine wpList_store_all rfl 74 _ _ rfl _ _ rfl rfl (.int .i64 0 :: zE) (by assumption) ?_ ?_ ?_ ?_; (· exact iC infoEF HL); (· exact HL.out); (· exact H1.out); (intro w2 hB2 hgr; have hb2 := Below.grown hb1 hgr hb1.size (fun _ e => by cases e; exact hg); have hbw := hbel.trans (hb2.mono hsz); have HB3 := Yq (HBr.out.below hb2 HBr.out.lt); clear hb1 hgr hB1 hB2 hb2)))
     go_roundw
     case rel => exact ⟨k + 1, -1, by omega, by go_num, rfl, ⟨by omega, by omega⟩, Hinv.out.trans Hd.out, hbw, HB3⟩
     case measure => simp [intOf]; omega
   ·obtain rfl : k = n1 := by omega
    have Hla : Hid (lf = la) := by show _ = _; rw [Hinv.out, ← Hm1.out, List.drop_length, geF]
    have HB1 := HBr
    have hb1 := hbel
    obtain ⟨r1, r8, q0, q15, q16, q17, q18, q19, q20⟩ := HA.out _ _ HBr.out
    have hlr1 : -1 ≤ la ∧ la ≤ 1000 := ⟨hla0, hla1⟩
    have Hla2 := Hla.out
    subst Hla2
    clear Hla Hinv hla0 hla1 hbel HBr hsz hlt
    go_wp2_with fail
    clear r1 r8 q0 q15 q16 q17 q18 q19 q20
    go_loopw [1, 58] (fun lv i wr => ∃ (k : Nat) (la : Int), k ≤ n2 ∧ i = .int .i64 k ∧ lv = .int .i64 la ∧ (-1 ≤ la ∧ la ≤ 1000) ∧ Hid (geS s (deep - 1) lf = geS (s.drop k) (deep - 1) la) ∧ Below w.heap.size w wr ∧ Hid (Blk wr g0 xc)) (fun _ i _ => n2 - (intOf i).toNat)
    case atStart => exact ⟨0, _, Nat.zero_le _, rfl, rfl, hlr1, (by show _ = _; simp), hb1, HB1⟩
    case round =>
     obtain ⟨k, la, hk, rfl, rfl, ⟨hla0, hla1⟩, Hinv, hbel, HBr⟩ := hrel
     have hsz := hbel.size
     by_cases hlt : k < n2
     ·have hks : k < se.length := by rw [Hn2.out]; exact hlt
      have hkf : k < s.length := by rw [Hm2.out]; exact hlt
      have Hd := Yq (geS_drop hkf (deep - 1) la)
      have HSZ := Yq (HSL.out _ (List.getElem_mem hkf))
      obtain ⟨b0, o0, hb0', hidx, hcell⟩ := FlatC.at (n := n2) (cap := c2) (a := a2) H4.out (by decide) (i := k) hks Tryz.underlying29 sizeES
      have hr : wr.rangeAt b0 o0 se[k] := range_below hcell hbel hb0'
      have hbr := below_le hbel
      obtain ⟨vc, xc', hx, rv, rx⟩ := H7.out.at hkf hks
      rw [hx] at hr
      have HRX := Yq rx
      have H30 := step30 s[k].1 s[k].2.1 rv.shape rx.shape
      have HL := Yq H30.1
      have H1 := Yq H30.2
      have HLx := Yq rx.shape.len
      have HLv := Yq rv.len
      have HBs := Yq (fun (w2 : World) (g : Nat) (hB : Blk w2 g (.int .i64 s[k].1 :: .int .i64 s[k].2.1 :: (vc ++ xc'))) => And.intro (show w2.rangeAt g 2 vc from hB.range (p := [.int .i64 s[k].1, .int .i64 s[k].2.1]) (q := vc) (r := xc') rfl rfl) (And.intro (show w2.cell? ⟨g, 1, none⟩ = some (.int .i64 s[k].2.1) from hB.cell rfl) (show w2.rangeAt g 9 xc' from hB.range (p := .int .i64 s[k].1 :: .int .i64 s[k].2.1 :: vc) (q := xc') (r := []) (by simp) (by simp [HLv.out]))))
      have HG : Hid (∀ (wx : World), Below wr.heap.size wr wx → Calls Tryz.prog 6 #[.agg vc.toArray, .int .i64 60] wx fun e w' => e = .returned (.bool (decide (gr s[k].2.2.1 60 30 < 0))) ∧ Below wx.heap.size wx w') := fun wx hb =>
       Great13_any s[k].2.2.1 vc wx 60 (rv.mono (hbr.trans (below_le hb))) (by decide) (by decide)
      clear hcell hx rx rv H30
      by_cases hpos : 0 ≤ la
      ·have hrg := Val.ge_le s[k].2.2.2 la (deep - 1) hpos
       have HC : Hid (∀ (wx : World), Below wr.heap.size wr wx → Calls Tryz.prog 15 #[.agg xc'.toArray, .int .i64 la, .int .i64 (deep - 1)] wx fun e w' => e = .returned (.int .i64 (ge s[k].2.2.2 la (deep - 1))) ∧ Below wx.heap.size wx w') := fun wx hb =>
        ih s[k].2.2.2 xc' wx la (deep - 1) HSZ.out (HRX.out.mono (hbr.trans (below_le hb))) hpos hla1 (by omega) (by omega)
       rw [dec_pos hpos] at Hd
       generalize ge s[k].2.2.2 la (deep - 1) = lb at *
       by_cases hbad : gr s[k].2.2.1 60 30 < 0
       ·have Hd2 : Hid (res = -1) := by
         show _ = _
         rw [Hres.out, Hinv.out, Hd.out, if_pos ⟨hpos, .inl hbad⟩]; rfl
        rw [decide_eq_true hbad] at HG
        clear Hd hbad
        generalize s[k].2.1 = ct at *
        generalize s[k].1 = sk at *
        go_wp2_with (first
         | (refine wpList_load_seg rfl 87 _ rfl _ _ rfl _ _ hr Tryz.underlying87 rfl (iC infoES HL) ?_)
         | (refine wpList_load_seg rfl 27 _ rfl _ _ rfl _ _ (by assumption) Tryz.underlying27 rfl (iC infoV HLv) ?_)
         | (refine wpList_alloc_lay rfl 87 rfl (zES) zeroES ?_; (intro w1 g hg hB1 hb1; clear hr))
         | (refine wpList_store_all rfl 87 _ _ rfl _ _ rfl rfl (zES) (by assumption) ?_ ?_ ?_ ?_; (· exact iC infoES HL); (· exact HL.out); (· exact H1.out); (intro w2 hB2 hgr; have hb2 := Below.grown hb1 hgr hb1.size (fun _ e => by cases e; exact hg); have r0 := (HBs.out w2 _ hB2).1; clear hb1 hgr hB1 hB2))
         | (go_at_call 6; (with_reducible refine (HG.out _ hb2).mono ?_); rintro e w3 ⟨rfl, hb3⟩; have hbw := hbel.trans ((hb2.trans (hb3.mono hb2.size)).mono hsz); clear hb2 hb3 r0))
        go_ret
        exact ⟨ret_int Hd2.out.symm, hbw⟩
       ·rw [decide_eq_false hbad] at HG
        by_cases hct : 2097152 < s[k].2.1
        ·have Hd2 : Hid (res = -1) := by
          show _ = _
          rw [Hres.out, Hinv.out, Hd.out, if_pos ⟨hpos, .inr hct⟩]; rfl
         clear Hd hbad
         generalize s[k].2.1 = ct at *
         have d5 : decide (2097152 < ct) = true := decide_eq_true hct
         generalize s[k].1 = sk at *
         go_wp2_with (first
          | (refine wpList_load_seg rfl 87 _ rfl _ _ rfl _ _ hr Tryz.underlying87 rfl (iC infoES HL) ?_)
          | (refine wpList_load_seg rfl 27 _ rfl _ _ rfl _ _ (by assumption) Tryz.underlying27 rfl (iC infoV HLv) ?_)
          | (refine wpList_alloc_lay rfl 87 rfl (zES) zeroES ?_; (intro w1 g hg hB1 hb1; clear hr))
          | (refine wpList_store_all rfl 87 _ _ rfl _ _ rfl rfl (zES) (by assumption) ?_ ?_ ?_ ?_; (· exact iC infoES HL); (· exact HL.out); (· exact H1.out); (intro w2 hB2 hgr; have hb2 := Below.grown hb1 hgr hb1.size (fun _ e => by cases e; exact hg); have r0 := (HBs.out w2 _ hB2).1; have HB2 := Yq hB2; clear hb1 hgr hB1 hB2))
          | (go_at_call 6; (with_reducible refine (HG.out _ hb2).mono ?_); rintro e w3 ⟨rfl, hb3⟩; have hbw := hbel.trans ((hb2.trans (hb3.mono hb2.size)).mono hsz); have q1 := (HBs.out w3 _ (HB2.out.below hb3 HB2.out.lt)).2.1; clear hb2 hb3 r0))
         go_ret
         exact ⟨ret_int Hd2.out.symm, hbw⟩
        ·rw [if_neg (show ¬ (0 ≤ la ∧ (gr s[k].2.2.1 60 30 < 0 ∨ 2097152 < s[k].2.1)) from fun h => by omega)] at Hd
         clear hbad
         generalize s[k].2.1 = ct at *
         have d5 : decide (2097152 < ct) = false := decide_eq_false hct
         generalize s[k].1 = sk at *
         go_wp2_with (first
          | (refine wpList_load_seg rfl 87 _ rfl _ _ rfl _ _ hr Tryz.underlying87 rfl (iC infoES HL) ?_)
          | (refine wpList_load_seg rfl 27 _ rfl _ _ rfl _ _ (by assumption) Tryz.underlying27 rfl (iC infoV HLv) ?_)
          | (refine wpList_load_seg rfl 32 _ rfl _ _ rfl _ _ (by assumption) Tryz.underlying32 rfl (iC infoE HLx) ?_)
          | (refine wpList_alloc_lay rfl 87 rfl (zES) zeroES ?_; (intro w1 g hg hB1 hb1; clear hr))
          | (refine wpList_store_all rfl 87 _ _ rfl _ _ rfl rfl (zES) (by assumption) ?_ ?_ ?_ ?_; (· exact iC infoES HL); (· exact HL.out); (· exact H1.out); (intro w2 hB2 hgr; have hb2 := Below.grown hb1 hgr hb1.size (fun _ e => by cases e; exact hg); have r0 := (HBs.out w2 _ hB2).1; have HB2 := Yq hB2; clear hb1 hgr hB1 hB2))
          | (go_at_call 6; (with_reducible refine (HG.out _ hb2).mono ?_); rintro e w3 ⟨rfl, hb3⟩; have hb4 := hb2.trans (hb3.mono hb2.size); obtain ⟨_, q1, r1⟩ := HBs.out w3 _ (HB2.out.below hb3 HB2.out.lt); clear hb2 hb3 r0)
          | (go_at_call 15; (with_reducible refine (HC.out _ hb4).mono ?_); rintro e w5 ⟨rfl, hb5⟩; have hb6 := hb4.trans (hb5.mono hb4.size); have hbw := hbel.trans (hb6.mono hsz); have HB3 := Yq (HBr.out.below hb6 HBr.out.lt); clear hb4 hb5 hb6 q1 r1))
         clear d5
         go_roundw
         case rel => exact ⟨k + 1, lb, by omega, by go_num, rfl, ⟨by omega, by omega⟩, Hinv.out.trans Hd.out, hbw, HB3⟩
         case measure => simp [intOf]; omega
      ·have hpn : la = -1 := by omega
       rw [dec_neg hpos, if_neg (fun h => hpos h.1)] at Hd
       clear hpos
       subst hpn
       generalize s[k].2.1 = ct at *
       generalize s[k].1 = sk at *
       go_upto_region 13 with ((first
        | (refine wpList_load_seg rfl 87 _ rfl _ _ rfl _ _ hr Tryz.underlying87 rfl (iC infoES HL) ?_)
        | (refine wpList_alloc_lay rfl 87 rfl (zES) zeroES ?_; (intro w1 g hg hB1 hb1; clear hr))
        | (refine wpList_store_all rfl 87 _ _ rfl _ _ rfl rfl (zES) (by assumption) ?_ ?_ ?_ ?_; (· exact iC infoES HL); (· exact HL.out); (· exact H1.out); (intro w2 hB2 hgr; have hb2 := Below.grown hb1 hgr hb1.size (fun _ e => by cases e; exact hg); have hbw := hbel.trans (hb2.mono hsz); have HB3 := Yq (HBr.out.below hb2 HBr.out.lt); clear hb1 hgr hB1 hB2 hb2))))
       go_wp2_with fail
       go_roundw
       case rel => exact ⟨k + 1, -1, by omega, by go_num, rfl, ⟨by omega, by omega⟩, Hinv.out.trans Hd.out, hbw, HB3⟩
       case measure => simp [intOf]; omega
     ·obtain rfl : k = n2 := by omega
      have Hla : Hid (geS s (deep - 1) lf = some la) := by show _ = _; rw [Hinv.out, ← Hm2.out, List.drop_length, geS]
      have HB2 := HBr
      have hb2 := hbel
      obtain ⟨r1, r8, q0, q15, q16, q17, q18, q19, q20⟩ := HA.out _ _ HBr.out
      have hlr2 : -1 ≤ la ∧ la ≤ 1000 := ⟨hla0, hla1⟩
      generalize la = lf2 at *
      have Hpost : Hid (res = geK ks (deep - 1) lf2) := by show _ = _; rw [Hres.out, Hla.out]; rfl
      clear Hla
      clear Hinv hla0 hla1 hbel HBr hsz hlt
      go_wp2_with fail
      clear r1 r8 q0 q15 q16 q17 q18 q19 q20
      go_loopw [1, 86] (fun lv i wr => ∃ (k : Nat) (la : Int), k ≤ n3 ∧ i = .int .i64 k ∧ lv = .int .i64 la ∧ (-1 ≤ la ∧ la ≤ 1000) ∧ Hid (geK ks (deep - 1) lf2 = geK (ks.drop k) (deep - 1) la) ∧ Below w.heap.size w wr ∧ Hid (Blk wr g0 xc)) (fun _ i _ => n3 - (intOf i).toNat)
      case atStart => exact ⟨0, _, Nat.zero_le _, rfl, rfl, hlr2, (by show _ = _; simp), hb2, HB2⟩
      case round =>
       obtain ⟨k, la, hk, rfl, rfl, ⟨hla0, hla1⟩, Hinv, hbel, HBr⟩ := hrel
       have hsz := hbel.size
       by_cases hlt : k < n3
       ·have hks : k < ke.length := by rw [Hn3.out]; exact hlt
        have hkf : k < ks.length := by rw [Hm3.out]; exact hlt
        have Hd := Yq (geK_drop hkf (deep - 1) la)
        have HSZ := Yq (HSP.out _ (List.getElem_mem hkf))
        obtain ⟨b0, o0, hb0', hidx, hcell⟩ := FlatC.at (n := n3) (cap := c3) (a := a3) H5.out (by decide) (i := k) hks Tryz.underlying30 sizeEK
        have hr : wr.rangeAt b0 o0 ke[k] := range_below hcell hbel hb0'
        have hbr := below_le hbel
        obtain ⟨vc, xc', hx, rv, rx⟩ := H8.out.at hkf hks
        rw [hx] at hr
        have HRX := Yq rx
        have H30 := key28 rv.shape rx.shape
        have HL := Yq H30.1
        have H1 := Yq H30.2
        have HLx := Yq rx.shape.len
        have HLv := Yq rv.len
        have HBs := Yq (fun (w2 : World) (g : Nat) (hB : Blk w2 g (vc ++ xc')) => And.intro (show w2.rangeAt g 0 vc from hB.range (p := []) (q := vc) (r := xc') (by simp) rfl) (show w2.rangeAt g 7 xc' from hB.range (p := vc) (q := xc') (r := []) (by simp) HLv.out))
        have HG : Hid (∀ (wx : World), Below wr.heap.size wr wx → Calls Tryz.prog 6 #[.agg vc.toArray, .int .i64 20] wx fun e w' => e = .returned (.bool (decide (gr ks[k].1 20 30 < 0))) ∧ Below wx.heap.size wx w') := fun wx hb =>
         Great13_any ks[k].1 vc wx 20 (rv.mono (hbr.trans (below_le hb))) (by decide) (by decide)
        clear hcell hx rx rv H30
        by_cases hpos : 0 ≤ la
        ·have hrg := Val.ge_le ks[k].2 la (deep - 1) hpos
         have HC : Hid (∀ (wx : World), Below wr.heap.size wr wx → Calls Tryz.prog 15 #[.agg xc'.toArray, .int .i64 la, .int .i64 (deep - 1)] wx fun e w' => e = .returned (.int .i64 (ge ks[k].2 la (deep - 1))) ∧ Below wx.heap.size wx w') := fun wx hb =>
          ih ks[k].2 xc' wx la (deep - 1) HSZ.out (HRX.out.mono (hbr.trans (below_le hb))) hpos hla1 (by omega) (by omega)
         rw [dec_pos hpos] at Hd
         generalize ge ks[k].2 la (deep - 1) = lb at *
         by_cases hbad : gr ks[k].1 20 30 < 0
         ·have Hd2 : Hid (res = -1) := by
           show _ = _
           rw [Hpost.out, Hinv.out, Hd.out, if_pos ⟨hpos, hbad⟩]
          rw [decide_eq_true hbad] at HG
          clear Hd hbad
          go_wp2_with (first
           | (refine wpList_load_seg rfl 78 _ rfl _ _ rfl _ _ hr Tryz.underlying78 rfl (iC infoEK HL) ?_)
           | (refine wpList_load_seg rfl 27 _ rfl _ _ rfl _ _ (by assumption) Tryz.underlying27 rfl (iC infoV HLv) ?_)
           | (refine wpList_alloc_lay rfl 78 rfl (zV ++ zE) zeroEK ?_; (intro w1 g hg hB1 hb1; clear hr))
           | (refine wpList_store_all rfl 78 _ _ rfl _ _ rfl rfl (zV ++ zE) (by assumption) ?_ ?_ ?_ ?_; (· exact iC infoEK HL); (· exact HL.out); (· exact H1.out); (intro w2 hB2 hgr; have hb2 := Below.grown hb1 hgr hb1.size (fun _ e => by cases e; exact hg); have r0 := (HBs.out w2 _ hB2).1; clear hb1 hgr hB1 hB2))
           | (go_at_call 6; (with_reducible refine (HG.out _ hb2).mono ?_); rintro e w3 ⟨rfl, hb3⟩; have hbw := hbel.trans ((hb2.trans (hb3.mono hb2.size)).mono hsz); clear hb2 hb3 r0))
          go_ret
          exact ⟨ret_int Hd2.out.symm, hbw⟩
         ·rw [decide_eq_false hbad] at HG
          rw [if_neg (show ¬ (0 ≤ la ∧ gr ks[k].1 20 30 < 0) from fun h => hbad h.2)] at Hd
          clear hbad
          go_wp2_with (first
           | (refine wpList_load_seg rfl 78 _ rfl _ _ rfl _ _ hr Tryz.underlying78 rfl (iC infoEK HL) ?_)
           | (refine wpList_load_seg rfl 27 _ rfl _ _ rfl _ _ (by assumption) Tryz.underlying27 rfl (iC infoV HLv) ?_)
           | (refine wpList_load_seg rfl 32 _ rfl _ _ rfl _ _ (by assumption) Tryz.underlying32 rfl (iC infoE HLx) ?_)
           | (refine wpList_alloc_lay rfl 78 rfl (zV ++ zE) zeroEK ?_; (intro w1 g hg hB1 hb1; clear hr))
           | (refine wpList_store_all rfl 78 _ _ rfl _ _ rfl rfl (zV ++ zE) (by assumption) ?_ ?_ ?_ ?_; (· exact iC infoEK HL); (· exact HL.out); (· exact H1.out); (intro w2 hB2 hgr; have hb2 := Below.grown hb1 hgr hb1.size (fun _ e => by cases e; exact hg); have r0 := (HBs.out w2 _ hB2).1; have HB2 := Yq hB2; clear hb1 hgr hB1 hB2))
           | (go_at_call 6; (with_reducible refine (HG.out _ hb2).mono ?_); rintro e w3 ⟨rfl, hb3⟩; have hb4 := hb2.trans (hb3.mono hb2.size); have r1 := (HBs.out w3 _ (HB2.out.below hb3 HB2.out.lt)).2; clear hb2 hb3 r0)
           | (go_at_call 15; (with_reducible refine (HC.out _ hb4).mono ?_); rintro e w5 ⟨rfl, hb5⟩; have hb6 := hb4.trans (hb5.mono hb4.size); have hbw := hbel.trans (hb6.mono hsz); have HB3 := Yq (HBr.out.below hb6 HBr.out.lt); clear hb4 hb5 hb6 r1))
          go_roundw
          case rel => exact ⟨k + 1, lb, by omega, by go_num, rfl, ⟨by omega, by omega⟩, Hinv.out.trans Hd.out, hbw, HB3⟩
          case measure => simp [intOf]; omega
        ·have hpn : la = -1 := by omega
         rw [dec_neg hpos, if_neg (fun h => hpos h.1)] at Hd
         clear hpos
         subst hpn
         go_wp2_with (first
          | (refine wpList_load_seg rfl 78 _ rfl _ _ rfl _ _ hr Tryz.underlying78 rfl (iC infoEK HL) ?_)
          | (refine wpList_alloc_lay rfl 78 rfl (zV ++ zE) zeroEK ?_; (intro w1 g hg hB1 hb1; clear hr))
          | (refine wpList_store_all rfl 78 _ _ rfl _ _ rfl rfl (zV ++ zE) (by assumption) ?_ ?_ ?_ ?_; (· exact iC infoEK HL); (· exact HL.out); (· exact H1.out); (intro w2 hB2 hgr; have hb2 := Below.grown hb1 hgr hb1.size (fun _ e => by cases e; exact hg); have hbw := hbel.trans (hb2.mono hsz); have HB3 := Yq (HBr.out.below hb2 HBr.out.lt); clear hb1 hgr hB1 hB2 hb2)))
         go_roundw
         case rel => exact ⟨k + 1, -1, by omega, by go_num, rfl, ⟨by omega, by omega⟩, Hinv.out.trans Hd.out, hbw, HB3⟩
         case measure => simp [intOf]; omega
       ·obtain rfl : k = n3 := by omega
        have Hla : Hid (la = geK ks (deep - 1) lf2) := by show _ = _; rw [Hinv.out, ← Hm3.out, List.drop_length, geK]
        have HB3 := HBr
        have hb3 := hbel
        clear hlt
        go_wp2_with fail
        go_ret
        exact ⟨ret_int (by rw [Hpost.out]; exact Hla.out), hb3⟩
theorem great21_all : ∀ N, Great21At N
 | 0 => fun x xc w left deep hs => absurd hs (by omega)
 | N + 1 => fun x xc w left deep hs hx h0 h1 h2 h3 => great21_at N (great21_all N) x xc w left deep hs hx h0 h1 h2 h3
theorem Great21_any (x : E) (xc : List Value) (w : World) (most : Int) (hx : ER (frag w) x xc) (h0 : 0 ≤ most) (h1 : most ≤ 1000) :
  Calls Tryz.prog 5 #[.agg xc.toArray, .int .i64 most] w fun e w' => e = .returned (.bool (decide (ge x most 20 < 0))) ∧ Below w.heap.size w w' := by
 have HC := Yq (fun (wx : World) (hb : Below w.heap.size w wx) => great21_all _ x xc wx most 20 (Nat.lt_succ_self _) (hx.mono (below_le hb)) h0 h1 (by decide) (by decide))
 have HL := Yq hx.shape.len
 clear hx
 generalize ge x most 20 = r at *
 go_enter Tryz.func5, Tryz.ntmps5
 go_wp2_with (first
  | (refine wpList_box_lay rfl 32 _ rfl _ rfl ?_; (intro w0 g0 hg0 hB0 hb0; have r0 := hB0.whole))
  | (refine wpList_load_seg rfl 32 _ rfl _ _ rfl _ _ r0 Tryz.underlying32 rfl (iC infoE HL) ?_)
  | (go_at_call 15; (with_reducible refine (HC.out _ hb0).mono ?_); rintro e w3 ⟨rfl, hb3⟩; replace hb0 := hb0.trans (hb3.mono hb0.size); clear r0 hb3))
 go_ret
 exact ⟨rfl, hb0⟩
end Go.Proofs.YtebekgdjknenlaaGreatDoor
