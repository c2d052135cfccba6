/- law13.great, walked. -/
import Derived.Test.YtkldcjlkeblggaaDoorGroupB
import Derived.Test.YtkldcjlkeblggaaDoorDKit
namespace Go.Proofs.YtkldcjlkeblggaaDoor
open Go.RowKit
open Val (V E gr grF grL grP dec ge geF geS geK)
set_option linter.unusedVariables false
set_option linter.unusedSimpArgs false

theorem zeroVF : (Tryd.prog.info? 59).map (·.zero) = some (some (.agg (Value.int .i64 0 :: zV).toArray)) := by kernel_rfl
theorem zeroVP : (Tryd.prog.info? 61).map (·.zero) = some (some (.agg (zV ++ zV).toArray)) := by kernel_rfl
theorem infoVF : (Tryd.prog.info? 59).map (·.size) = some 8 := by kernel_rfl
theorem infoVP : (Tryd.prog.info? 61).map (·.size) = some 14 := by kernel_rfl
theorem grF_drop {f : List (Int × V)} {k : Nat} (h : k < f.length) (d l : Int) : grF (f.drop k) d l = grF (f.drop (k + 1)) d (dec l (gr f[k].2 l d)) := by
  rw [List.drop_eq_getElem_cons h]
  generalize f[k] = q
  obtain ⟨a, b⟩ := q
  rw [grF]
theorem grL_drop {f : List V} {k : Nat} (h : k < f.length) (d l : Int) : grL (f.drop k) d l = grL (f.drop (k + 1)) d (dec l (gr f[k] l d)) := by
  rw [List.drop_eq_getElem_cons h]
  rw [grL]
theorem grP_drop {f : List (V × V)} {k : Nat} (h : k < f.length) (d l : Int) : grP (f.drop k) d l = grP (f.drop (k + 1)) d (dec (dec l (gr f[k].1 l d)) (gr f[k].2 (dec l (gr f[k].1 l d)) d)) := by
  rw [List.drop_eq_getElem_cons h]
  generalize f[k] = q
  obtain ⟨a, b⟩ := q
  rw [grP]
theorem dec_pos {l x : Int} (h : 0 ≤ l) : dec l x = x := if_pos h
theorem dec_neg {l x : Int} (h : ¬ 0 ≤ l) : dec l x = l := if_neg h
def Great13At (N : Nat) : Prop := ∀ (x : V) (xc : List Value) (w : World) (left deep : Int), SizeOf.sizeOf x < N → VR (frag w) x xc → 0 ≤ left → left ≤ 1000 → 0 ≤ deep → deep ≤ 30 →
  Calls Tryd.prog 14 #[.agg xc.toArray, .int .i64 left, .int .i64 deep] w fun e w' => e = .returned (.int .i64 (gr x left deep)) ∧ Below w.heap.size w w'
/-- the loop's end -/
def GEnd (F : World → Prop) (r : Int) (v : Value) (w : World) : Prop := v = .int .i64 r ∧ F w

set_option maxRecDepth 100000 in
set_option maxHeartbeats 4000000 in
theorem great13_at (N : Nat) (ih : Great13At N) (x : V) (xc : List Value) (w : World) (left deep : Int) (hs : SizeOf.sizeOf x < N + 1) (hx : VR (frag w) x xc) (hl0 : 0 ≤ left) (hl1 : left ≤ 1000) (hp0 : 0 ≤ deep) (hp1 : deep ≤ 30) :
    Calls Tryd.prog 14 #[.agg xc.toArray, .int .i64 left, .int .i64 deep] w fun e w' => e = .returned (.int .i64 (gr x left deep)) ∧ Below w.heap.size w w' := by
  have hsF : ∀ e ∈ x.fields, SizeOf.sizeOf e.2 < N := fun e h => by have := Val.size_field (x := x) (m := e.1) (v := e.2) h; omega
  have hsL : ∀ e ∈ x.list, SizeOf.sizeOf e < N := fun e h => by have := Val.size_list (x := x) h; omega
  have hsP : ∀ e ∈ x.pairs, SizeOf.sizeOf e.1 < N ∧ SizeOf.sizeOf e.2 < N := fun e h => by have := Val.size_pair (x := x) (k := e.1) (v := e.2) h; omega
  have HW := Lib.hid hx
  obtain ⟨k, n, t, f, r, l, p⟩ := x
  rw [VR] at hx
  obtain ⟨fv, lv, pv, fe, le, pe, rfl, hsz, ⟨h3, h4, h5⟩, h6, h7, h8⟩ := hx
  obtain ⟨a1, c1, rfl, hc1, hd1, _⟩ := h3.len
  obtain ⟨a2, c2, rfl, hc2, hd2, _⟩ := h4.len
  obtain ⟨a3, c3, rfl, hc3, hd3, _⟩ := h5.len
  simp only [Val.V.fields, Val.V.list, Val.V.pairs] at hsF hsL hsP
  have HSF := Lib.hid hsF; have HSL := Lib.hid hsL; have HSP := Lib.hid hsP
  have H3 := Lib.hid h3; have H4 := Lib.hid h4; have H5 := Lib.hid h5
  have H6 := Lib.hid h6; have H7 := Lib.hid h7; have H8 := Lib.hid h8
  have hln1 := h6.len; have hln2 := h7.len; have hln3 := h8.len
  have HS := Lib.hid (fun (w2 : World) (g : Nat) (hB : Blk w2 g [.int .i64 k, .int .u64 n, .string t, .slice a1 fe.length c1, .string r, .slice a2 le.length c2, .slice a3 pe.length c3]) => And.intro (hB.cell (o := 2) (u := .string t) rfl) (And.intro (hB.cell (o := 3) (u := .slice a1 fe.length c1) rfl) (And.intro (hB.cell (o := 4) (u := .string r) rfl) (And.intro (hB.cell (o := 5) (u := .slice a2 le.length c2) rfl) (hB.cell (o := 6) (u := .slice a3 pe.length c3) rfl)))))
  unfold maxLen at hd1 hd2 hd3
  clear h3 h4 h5 h6 h7 h8 hs hsF hsL hsP hsz
  obtain ⟨n1, hn1⟩ : ∃ n1, n1 = fe.length := ⟨_, rfl⟩
  obtain ⟨n2, hn2⟩ : ∃ n2, n2 = le.length := ⟨_, rfl⟩
  obtain ⟨n3, hn3⟩ : ∃ n3, n3 = pe.length := ⟨_, rfl⟩
  rw [← hn1] at H3 HS hc1 hln1
  rw [← hn2] at H4 HS hc2 hln2
  rw [← hn3] at H5 HS hc3 hln3
  have Hn1 := Lib.hid hn1.symm; have Hm1 := Lib.hid hln1.symm
  have Hn2 := Lib.hid hn2.symm; have Hm2 := Lib.hid hln2.symm
  have Hn3 := Lib.hid hn3.symm; have Hm3 := Lib.hid hln3.symm
  rw [← hn1, ← hn2, ← hn3]
  clear hn1 hn2 hn3 hln1 hln2 hln3 HW
  generalize hxc : [Value.int .i64 k, .int .u64 n, .string t, .slice a1 n1 c1, .string r, .slice a2 n2 c2, .slice a3 n3 c3] = xc at *
  clear hxc
  by_cases hg : deep = 0 ∨ 400 < t.size ∨ 400 < r.size
  · have HK : Hid (gr (.mk k n t f r l p) left deep = -1) := by show _ = _; rw [gr]; exact if_pos hg
    rw [HK.out]
    clear HK
    have hg3 : deep = 0 ∨ (deep ≠ 0 ∧ 400 < t.size) ∨ (deep ≠ 0 ∧ ¬ 400 < t.size ∧ 400 < r.size) := by omega
    clear hg
    rcases hg3 with hg | ⟨g0, g1⟩ | ⟨g0, g1, g2⟩
    · subst hg
      go_enter Tryd.func14, Tryd.ntmps14
      go_wp2_with (first
        | (refine wpList_box_lay rfl 27 _ rfl _ rfl ?_; (intro w0 g0 hg0 hB0 hb0; obtain ⟨q2, q3, q4, q5, q6⟩ := HS.out _ _ hB0)))
      go_ret
      exact ⟨rfl, hb0⟩
    · have d0 : decide (deep = 0) = false := decide_eq_false g0
      have d1 : decide (400 < t.size) = true := decide_eq_true g1
      have d2 : decide ((400 : Int) < (t.size : Int)) = true := decide_eq_true (by omega)
      go_enter Tryd.func14, Tryd.ntmps14
      go_wp2_with (first
        | (refine wpList_box_lay rfl 27 _ rfl _ rfl ?_; (intro w0 g0 hg0 hB0 hb0; obtain ⟨q2, q3, q4, q5, q6⟩ := HS.out _ _ hB0)))
      go_ret
      exact ⟨rfl, hb0⟩
    · have d0 : decide (deep = 0) = false := decide_eq_false g0
      have d1 : decide (400 < t.size) = false := decide_eq_false g1
      have d2 : decide ((400 : Int) < (t.size : Int)) = false := decide_eq_false (by omega)
      have d3 : decide (400 < r.size) = true := decide_eq_true g2
      have d4 : decide ((400 : Int) < (r.size : Int)) = true := decide_eq_true (by omega)
      go_enter Tryd.func14, Tryd.ntmps14
      go_wp2_with (first
        | (refine wpList_box_lay rfl 27 _ rfl _ rfl ?_; (intro w0 g0 hg0 hB0 hb0; obtain ⟨q2, q3, q4, q5, q6⟩ := HS.out _ _ hB0)))
      go_ret
      exact ⟨rfl, hb0⟩
  · have HK : Hid (gr (.mk k n t f r l p) left deep = grP p (deep - 1) (grL l (deep - 1) (grF f (deep - 1) (left - 1)))) := by show _ = _; rw [gr]; exact if_neg hg
    have Hr1 := Lib.hid (Val.grF_le f (deep - 1) (left - 1) (by omega))
    have Hr2 := Lib.hid (Val.grL_le l (deep - 1) _ Hr1.out.1)
    have Hr3 := Lib.hid (Val.grP_le p (deep - 1) _ Hr2.out.1)
    rw [HK.out]
    clear HK
    have g0 : ¬ deep = 0 := by omega
    have d0 : decide (deep = 0) = false := decide_eq_false g0
    have d1 : decide (400 < t.size) = false := decide_eq_false (by omega)
    have d2 : decide ((400 : Int) < (t.size : Int)) = false := decide_eq_false (by omega)
    have d3 : decide (400 < r.size) = false := decide_eq_false (by omega)
    have d4 : decide ((400 : Int) < (r.size : Int)) = false := decide_eq_false (by omega)
    clear hg
    go_enter Tryd.func14, Tryd.ntmps14
    go_wp2_with (first
      | (refine wpList_box_lay rfl 27 _ rfl _ rfl ?_; (intro w0 g0 hg0 hB0 hb0; obtain ⟨q2, q3, q4, q5, q6⟩ := HS.out _ _ hB0; have HB0 := Lib.hid hB0; clear hB0)))
    clear q2 q3 q4 q5 q6 d0 d1 d2 d3 d4
    go_loopw [1, 32] (fun lv i wr => ∃ (k : Nat) (la : Int), k ≤ n1 ∧ i = .int .i64 k ∧ lv = .int .i64 la ∧ (-1 ≤ la ∧ la ≤ 1000) ∧ Hid (grF f (deep - 1) (left - 1) = grF (f.drop k) (deep - 1) la) ∧ Below w.heap.size w wr ∧ Hid (Blk wr g0 xc)) (fun _ i _ => n1 - (intOf i).toNat)
    case atStart => exact ⟨0, _, Nat.zero_le _, rfl, rfl, ⟨by omega, by omega⟩, (by show _ = _; simp), hb0, HB0⟩
    case round =>
      obtain ⟨k, la, hk, rfl, rfl, ⟨hla0, hla1⟩, Hinv, hbel, HBr⟩ := hrel
      have hsz := hbel.size
      by_cases hlt : k < n1
      · have hks : k < fe.length := by rw [Hn1.out]; exact hlt
        have hkf : k < f.length := by rw [Hm1.out]; exact hlt
        have Hd := Lib.hid (grF_drop hkf (deep - 1) la)
        have HSZ := Lib.hid (HSF.out _ (List.getElem_mem hkf))
        obtain ⟨b0, o0, hb0', hidx, hcell⟩ := FlatC.at (n := n1) (cap := c1) (a := a1) H3.out (by decide) (i := k) hks Tryd.underlying23 sizeFld
        have hr : wr.rangeAt b0 o0 fe[k] := range_below hcell hbel hb0'
        have hbr := below_le hbel
        obtain ⟨yc, hx, rx⟩ := H6.out.at hkf hks
        rw [hx] at hr
        have HRX := Lib.hid rx
        have HL := Lib.hid (show (Value.int .i64 f[k].1 :: yc).length = 8 by simp [rx.len])
        have H1 := Lib.hid (one8 ⟨f[k].1, yc, rx.shape, rfl⟩)
        have HLy := Lib.hid rx.len
        have HBs := Lib.hid (fun (w2 : World) (g : Nat) (hB : Blk w2 g (.int .i64 f[k].1 :: yc)) => (show w2.rangeAt g 1 yc from hB.range (p := [.int .i64 f[k].1]) (q := yc) (r := []) (by simp) rfl))
        clear hcell hx rx
        by_cases hpos : 0 ≤ la
        · have hrg := Val.gr_le f[k].2 la (deep - 1) hpos
          have HC : Hid (∀ (wx : World), Below wr.heap.size wr wx → Calls Tryd.prog 14 #[.agg yc.toArray, .int .i64 la, .int .i64 (deep - 1)] wx fun e w' => e = .returned (.int .i64 (gr f[k].2 la (deep - 1))) ∧ Below wx.heap.size wx w') := fun wx hb =>
            ih f[k].2 yc wx la (deep - 1) HSZ.out (HRX.out.mono (hbr.trans (below_le hb))) hpos hla1 (by omega) (by omega)
          rw [dec_pos hpos] at Hd
          generalize gr f[k].2 la (deep - 1) = lb at *
          generalize f[k].1 = fnum at *
          go_wp2_with (first
            | (refine wpList_load_seg rfl 59 _ rfl _ _ rfl _ _ hr Tryd.underlying59 rfl ?_ ?_; (· exact infoVF.trans (congrArg some HL.out.symm)))
            | (refine wpList_load_seg rfl 27 _ rfl _ _ rfl _ _ (by assumption) Tryd.underlying27 rfl ?_ ?_; (· exact infoV.trans (congrArg some HLy.out.symm)))
            | (refine wpList_alloc_lay rfl 59 rfl (.int .i64 0 :: zV) zeroVF ?_; (intro w1 g hg hB1 hb1; clear hr))
            | (refine wpList_store_all rfl 59 _ _ rfl _ _ rfl rfl (.int .i64 0 :: zV) (by assumption) ?_ ?_ ?_ ?_; (· exact infoVF.trans (congrArg some HL.out.symm)); (· exact HL.out); (· exact H1.out); (intro w2 hB2 hgr; have hb2 := Below.grown hb1 hgr hb1.size (fun _ e => by cases e; exact hg); have r1 := HBs.out w2 _ hB2; clear hb1 hgr hB1 hB2))
            | (go_at_call 14; (with_reducible refine (HC.out _ hb2).mono ?_); rintro e w3 ⟨rfl, hb3⟩; have hbw := hbel.trans ((hb2.trans (hb3.mono hb2.size)).mono hsz); have HB3 := Lib.hid (HBr.out.below (hb2.trans (hb3.mono hb2.size)) HBr.out.lt); clear hb2 hb3 r1))
          go_roundw
          case rel => exact ⟨k + 1, lb, by omega, by go_num, rfl, ⟨by omega, by omega⟩, Hinv.out.trans Hd.out, hbw, HB3⟩
          case measure => simp [intOf]; omega
        · have hpn : la = -1 := by omega
          rw [dec_neg hpos] at Hd
          clear hpos
          subst hpn
          generalize f[k].1 = fnum at *
          go_wp2_with (first
            | (refine wpList_load_seg rfl 59 _ rfl _ _ rfl _ _ hr Tryd.underlying59 rfl ?_ ?_; (· exact infoVF.trans (congrArg some HL.out.symm)))
            | (refine wpList_alloc_lay rfl 59 rfl (.int .i64 0 :: zV) zeroVF ?_; (intro w1 g hg hB1 hb1; clear hr))
            | (refine wpList_store_all rfl 59 _ _ rfl _ _ rfl rfl (.int .i64 0 :: zV) (by assumption) ?_ ?_ ?_ ?_; (· exact infoVF.trans (congrArg some HL.out.symm)); (· exact HL.out); (· exact H1.out); (intro w2 hB2 hgr; have hb2 := Below.grown hb1 hgr hb1.size (fun _ e => by cases e; exact hg); have hbw := hbel.trans (hb2.mono hsz); have HB3 := Lib.hid (HBr.out.below hb2 HBr.out.lt); clear hb1 hgr hB1 hB2 hb2)))
          go_roundw
          case rel => exact ⟨k + 1, -1, by omega, by go_num, rfl, ⟨by omega, by omega⟩, Hinv.out.trans Hd.out, hbw, HB3⟩
          case measure => simp [intOf]; omega
      · obtain rfl : k = n1 := by omega
        have Hla : Hid (la = grF f (deep - 1) (left - 1)) := by show _ = _; rw [Hinv.out, ← Hm1.out, List.drop_length, grF]
        have HB1 := HBr
        have hb1 := hbel
        obtain ⟨q2, q3, q4, q5, q6⟩ := HS.out _ _ HBr.out
        clear hlt
        have Hla1 := Hla
        have hlr1 : -1 ≤ la ∧ la ≤ 1000 := ⟨hla0, hla1⟩
        generalize la = la1 at *
        clear Hla Hinv hla0 hla1 hbel HBr hsz
        go_wp2_with fail
        clear q2 q3 q4 q5 q6
        go_loopw [1, 48] (fun lv i wr => ∃ (k : Nat) (la : Int), k ≤ n2 ∧ i = .int .i64 k ∧ lv = .int .i64 la ∧ (-1 ≤ la ∧ la ≤ 1000) ∧ Hid (grL l (deep - 1) (grF f (deep - 1) (left - 1)) = grL (l.drop k) (deep - 1) la) ∧ Below w.heap.size w wr ∧ Hid (Blk wr g0 xc)) (fun _ i _ => n2 - (intOf i).toNat)
        case atStart => exact ⟨0, la1, Nat.zero_le _, rfl, rfl, hlr1, (by show _ = _; rw [Hla1.out]; simp), hb1, HB1⟩
        case round =>
          obtain ⟨k, la, hk, rfl, rfl, ⟨hla0, hla1⟩, Hinv, hbel, HBr⟩ := hrel
          have hsz := hbel.size
          by_cases hlt : k < n2
          · have hks : k < le.length := by rw [Hn2.out]; exact hlt
            have hkf : k < l.length := by rw [Hm2.out]; exact hlt
            have Hd := Lib.hid (grL_drop hkf (deep - 1) la)
            have HSZ := Lib.hid (HSL.out _ (List.getElem_mem hkf))
            obtain ⟨b0, o0, hb0', hidx, hcell⟩ := FlatC.at (n := n2) (cap := c2) (a := a2) H4.out (by decide) (i := k) hks Tryd.underlying24 sizeVal
            have hr : wr.rangeAt b0 o0 le[k] := range_below hcell hbel hb0'
            have hbr := below_le hbel
            have rx : VR (frag w) l[k] le[k] := H7.out.at hkf hks
            have HLk := Lib.hid rx.len
            generalize hle : le[k] = yc at *
            clear hle
            have HRX := Lib.hid rx
            have HL := Lib.hid rx.len
            have H1 := Lib.hid (one7 rx.shape)
            have HLy := Lib.hid rx.len
            have HBs := Lib.hid (fun (w2 : World) (g : Nat) (hB : Blk w2 g yc) => hB.whole)
            clear hcell rx
            by_cases hpos : 0 ≤ la
            · have hrg := Val.gr_le l[k] la (deep - 1) hpos
              have HC : Hid (∀ (wx : World), Below wr.heap.size wr wx → Calls Tryd.prog 14 #[.agg yc.toArray, .int .i64 la, .int .i64 (deep - 1)] wx fun e w' => e = .returned (.int .i64 (gr l[k] la (deep - 1))) ∧ Below wx.heap.size wx w') := fun wx hb =>
                ih l[k] yc wx la (deep - 1) HSZ.out (HRX.out.mono (hbr.trans (below_le hb))) hpos hla1 (by omega) (by omega)
              rw [dec_pos hpos] at Hd
              generalize gr l[k] la (deep - 1) = lb at *
              go_wp2_with (first
                | (refine wpList_load_seg rfl 27 _ rfl _ _ rfl _ _ (by assumption) Tryd.underlying27 rfl ?_ ?_; (· exact infoV.trans (congrArg some HLy.out.symm)))
                | (refine wpList_alloc_lay rfl 27 rfl zV zeroV ?_; (intro w1 g hg hB1 hb1; clear hr))
                | (refine wpList_store_all rfl 27 _ _ rfl _ _ rfl rfl zV (by assumption) ?_ ?_ ?_ ?_; (· exact infoV.trans (congrArg some HL.out.symm)); (· exact HL.out); (· exact H1.out); (intro w2 hB2 hgr; have hb2 := Below.grown hb1 hgr hb1.size (fun _ e => by cases e; exact hg); have r1 := HBs.out w2 _ hB2; clear hb1 hgr hB1 hB2))
                | (go_at_call 14; (with_reducible refine (HC.out _ hb2).mono ?_); rintro e w3 ⟨rfl, hb3⟩; have hbw := hbel.trans ((hb2.trans (hb3.mono hb2.size)).mono hsz); have HB3 := Lib.hid (HBr.out.below (hb2.trans (hb3.mono hb2.size)) HBr.out.lt); clear hb2 hb3 r1))
              go_roundw
              case rel => exact ⟨k + 1, lb, by omega, by go_num, rfl, ⟨by omega, by omega⟩, Hinv.out.trans Hd.out, hbw, HB3⟩
              case measure => simp [intOf]; omega
            · have hpn : la = -1 := by omega
              rw [dec_neg hpos] at Hd
              clear hpos
              subst hpn
              go_wp2_with (first
                | (refine wpList_load_seg rfl 27 _ rfl _ _ rfl _ _ hr Tryd.underlying27 rfl ?_ ?_; (· exact infoV.trans (congrArg some HL.out.symm)))
                | (refine wpList_alloc_lay rfl 27 rfl zV zeroV ?_; (intro w1 g hg hB1 hb1; clear hr))
                | (refine wpList_store_all rfl 27 _ _ rfl _ _ rfl rfl zV (by assumption) ?_ ?_ ?_ ?_; (· exact infoV.trans (congrArg some HL.out.symm)); (· exact HL.out); (· exact H1.out); (intro w2 hB2 hgr; have hb2 := Below.grown hb1 hgr hb1.size (fun _ e => by cases e; exact hg); have hbw := hbel.trans (hb2.mono hsz); have HB3 := Lib.hid (HBr.out.below hb2 HBr.out.lt); clear hb1 hgr hB1 hB2 hb2)))
              go_roundw
              case rel => exact ⟨k + 1, -1, by omega, by go_num, rfl, ⟨by omega, by omega⟩, Hinv.out.trans Hd.out, hbw, HB3⟩
              case measure => simp [intOf]; omega
          · obtain rfl : k = n2 := by omega
            have Hla : Hid (la = grL l (deep - 1) (grF f (deep - 1) (left - 1))) := by show _ = _; rw [Hinv.out, ← Hm2.out, List.drop_length, grL]
            have HB2 := HBr
            have hb2 := hbel
            obtain ⟨q2, q3, q4, q5, q6⟩ := HS.out _ _ HBr.out
            clear hlt
            have Hla2 := Hla
            have hlr2 : -1 ≤ la ∧ la ≤ 1000 := ⟨hla0, hla1⟩
            generalize la = la2 at *
            clear Hla Hinv hla0 hla1 hbel HBr hsz
            go_wp2_with fail
            clear q2 q3 q4 q5 q6
            go_loopw [1, 63] (fun lv i wr => ∃ (k : Nat) (la : Int), k ≤ n3 ∧ i = .int .i64 k ∧ lv = .int .i64 la ∧ (-1 ≤ la ∧ la ≤ 1000) ∧ Hid (grP p (deep - 1) (grL l (deep - 1) (grF f (deep - 1) (left - 1))) = grP (p.drop k) (deep - 1) la) ∧ Below w.heap.size w wr ∧ Hid (Blk wr g0 xc)) (fun _ i _ => n3 - (intOf i).toNat)
            case atStart => exact ⟨0, la2, Nat.zero_le _, rfl, rfl, hlr2, (by show _ = _; rw [Hla2.out]; simp), hb2, HB2⟩
            case round =>
              obtain ⟨k, la, hk, rfl, rfl, ⟨hla0, hla1⟩, Hinv, hbel, HBr⟩ := hrel
              have hsz := hbel.size
              by_cases hlt : k < n3
              · have hks : k < pe.length := by rw [Hn3.out]; exact hlt
                have hkf : k < p.length := by rw [Hm3.out]; exact hlt
                have Hd := Lib.hid (grP_drop hkf (deep - 1) la)
                have HSZ := Lib.hid (HSP.out _ (List.getElem_mem hkf))
                obtain ⟨b0, o0, hb0', hidx, hcell⟩ := FlatC.at (n := n3) (cap := c3) (a := a3) H5.out (by decide) (i := k) hks Tryd.underlying25 sizePar
                have hr : wr.rangeAt b0 o0 pe[k] := range_below hcell hbel hb0'
                have hbr := below_le hbel
                obtain ⟨kc, yc, hx, rk, rx⟩ := H8.out.at hkf hks
                rw [hx] at hr
                have HRK := Lib.hid rk
                have HRX := Lib.hid rx
                have HL := Lib.hid (show (kc ++ yc).length = 14 by simp [rx.len, rk.len])
                have H1 := Lib.hid (one14 ⟨kc, yc, rk.shape, rx.shape, rfl⟩)
                have HLy := Lib.hid rx.len
                have HLk := Lib.hid rk.len
                have HBs := Lib.hid (fun (w2 : World) (g : Nat) (hB : Blk w2 g (kc ++ yc)) => And.intro (show w2.rangeAt g 0 kc from hB.range (p := []) (q := kc) (r := yc) (by simp) rfl) (show w2.rangeAt g 7 yc from hB.range (p := kc) (q := yc) (r := []) (by simp) HLk.out))
                clear hcell hx rx rk
                by_cases hpos : 0 ≤ la
                · have hrg := Val.gr_le p[k].1 la (deep - 1) hpos
                  have HC : Hid (∀ (wx : World), Below wr.heap.size wr wx → Calls Tryd.prog 14 #[.agg kc.toArray, .int .i64 la, .int .i64 (deep - 1)] wx fun e w' => e = .returned (.int .i64 (gr p[k].1 la (deep - 1))) ∧ Below wx.heap.size wx w') := fun wx hb =>
                    ih p[k].1 kc wx la (deep - 1) HSZ.out.1 (HRK.out.mono (hbr.trans (below_le hb))) hpos hla1 (by omega) (by omega)
                  rw [dec_pos hpos] at Hd
                  by_cases hpos2 : 0 ≤ gr p[k].1 la (deep - 1)
                  · have hrg2 := Val.gr_le p[k].2 (gr p[k].1 la (deep - 1)) (deep - 1) hpos2
                    have HC2 : Hid (∀ (wx : World), Below wr.heap.size wr wx → Calls Tryd.prog 14 #[.agg yc.toArray, .int .i64 (gr p[k].1 la (deep - 1)), .int .i64 (deep - 1)] wx fun e w' => e = .returned (.int .i64 (gr p[k].2 (gr p[k].1 la (deep - 1)) (deep - 1))) ∧ Below wx.heap.size wx w') := fun wx hb =>
                      ih p[k].2 yc wx _ (deep - 1) HSZ.out.2 (HRX.out.mono (hbr.trans (below_le hb))) hpos2 (by omega) (by omega) (by omega)
                    rw [dec_pos hpos2] at Hd
                    generalize gr p[k].2 (gr p[k].1 la (deep - 1)) (deep - 1) = lc at *
                    generalize gr p[k].1 la (deep - 1) = lb at *
                    go_wp2_with (first
                      | (refine wpList_load_seg rfl 61 _ rfl _ _ rfl _ _ hr Tryd.underlying61 rfl ?_ ?_; (· exact infoVP.trans (congrArg some HL.out.symm)))
                      | (refine wpList_load_seg rfl 27 _ rfl _ _ rfl _ _ (by assumption) Tryd.underlying27 rfl ?_ ?_; (· first | exact infoV.trans (congrArg some HLk.out.symm) | exact infoV.trans (congrArg some HLy.out.symm)))
                      | (refine wpList_alloc_lay rfl 61 rfl (zV ++ zV) zeroVP ?_; (intro w1 g hg hB1 hb1; clear hr))
                      | (refine wpList_store_all rfl 61 _ _ rfl _ _ rfl rfl (zV ++ zV) (by assumption) ?_ ?_ ?_ ?_; (· exact infoVP.trans (congrArg some HL.out.symm)); (· exact HL.out); (· exact H1.out); (intro w2 hB2 hgr; have hb2 := Below.grown hb1 hgr hb1.size (fun _ e => by cases e; exact hg); have r0 := (HBs.out w2 _ hB2).1; have HB2 := Lib.hid hB2; clear hb1 hgr hB1 hB2))
                      | (go_at_call 14; (with_reducible refine (HC.out _ hb2).mono ?_); rintro e w3 ⟨rfl, hb3⟩; have hb4 := hb2.trans (hb3.mono hb2.size); have r1 := (HBs.out w3 _ (HB2.out.below hb3 HB2.out.lt)).2; clear hb2 hb3 r0 HC)
                      | (go_at_call 14; (with_reducible refine (HC2.out _ hb4).mono ?_); rintro e w5 ⟨rfl, hb5⟩; have hb6 := hb4.trans (hb5.mono hb4.size); have hbw := hbel.trans (hb6.mono hsz); have HB3 := Lib.hid (HBr.out.below hb6 HBr.out.lt); clear hb4 hb5 hb6 r1))
                    go_roundw
                    case rel => exact ⟨k + 1, lc, by omega, by go_num, rfl, ⟨by omega, by omega⟩, Hinv.out.trans Hd.out, hbw, HB3⟩
                    case measure => simp [intOf]; omega
                  · have hpn : gr p[k].1 la (deep - 1) = -1 := by omega
                    rw [dec_neg hpos2, hpn] at Hd
                    rw [hpn] at HC
                    clear hpos2 hpn hrg
                    go_wp2_with (first
                      | (refine wpList_load_seg rfl 61 _ rfl _ _ rfl _ _ hr Tryd.underlying61 rfl ?_ ?_; (· exact infoVP.trans (congrArg some HL.out.symm)))
                      | (refine wpList_load_seg rfl 27 _ rfl _ _ rfl _ _ (by assumption) Tryd.underlying27 rfl ?_ ?_; (· first | exact infoV.trans (congrArg some HLk.out.symm) | exact infoV.trans (congrArg some HLy.out.symm)))
                      | (refine wpList_alloc_lay rfl 61 rfl (zV ++ zV) zeroVP ?_; (intro w1 g hg hB1 hb1; clear hr))
                      | (refine wpList_store_all rfl 61 _ _ rfl _ _ rfl rfl (zV ++ zV) (by assumption) ?_ ?_ ?_ ?_; (· exact infoVP.trans (congrArg some HL.out.symm)); (· exact HL.out); (· exact H1.out); (intro w2 hB2 hgr; have hb2 := Below.grown hb1 hgr hb1.size (fun _ e => by cases e; exact hg); have r0 := (HBs.out w2 _ hB2).1; clear hb1 hgr hB1 hB2))
                      | (go_at_call 14; (with_reducible refine (HC.out _ hb2).mono ?_); rintro e w3 ⟨rfl, hb3⟩; have hb4 := hb2.trans (hb3.mono hb2.size); have hbw := hbel.trans (hb4.mono hsz); have HB3 := Lib.hid (HBr.out.below hb4 HBr.out.lt); clear hb2 hb3 hb4 r0))
                    go_roundw
                    case rel => exact ⟨k + 1, -1, by omega, by go_num, rfl, ⟨by omega, by omega⟩, Hinv.out.trans Hd.out, hbw, HB3⟩
                    case measure => simp [intOf]; omega
                · have hpn : la = -1 := by omega
                  rw [dec_neg hpos, dec_neg hpos] at Hd
                  clear hpos
                  subst hpn
                  go_wp2_with (first
                    | (refine wpList_load_seg rfl 61 _ rfl _ _ rfl _ _ hr Tryd.underlying61 rfl ?_ ?_; (· exact infoVP.trans (congrArg some HL.out.symm)))
                    | (refine wpList_alloc_lay rfl 61 rfl (zV ++ zV) zeroVP ?_; (intro w1 g hg hB1 hb1; clear hr))
                    | (refine wpList_store_all rfl 61 _ _ rfl _ _ rfl rfl (zV ++ zV) (by assumption) ?_ ?_ ?_ ?_; (· exact infoVP.trans (congrArg some HL.out.symm)); (· exact HL.out); (· exact H1.out); (intro w2 hB2 hgr; have hb2 := Below.grown hb1 hgr hb1.size (fun _ e => by cases e; exact hg); have hbw := hbel.trans (hb2.mono hsz); have HB3 := Lib.hid (HBr.out.below hb2 HBr.out.lt); clear hb1 hgr hB1 hB2 hb2)))
                  go_roundw
                  case rel => exact ⟨k + 1, -1, by omega, by go_num, rfl, ⟨by omega, by omega⟩, Hinv.out.trans Hd.out, hbw, HB3⟩
                  case measure => simp [intOf]; omega
              · obtain rfl : k = n3 := by omega
                have Hla : Hid (la = grP p (deep - 1) (grL l (deep - 1) (grF f (deep - 1) (left - 1)))) := by show _ = _; rw [Hinv.out, ← Hm3.out, List.drop_length, grP]
                have HB3 := HBr
                have hb3 := hbel
                clear hlt
                go_wp2_with fail
                go_ret
                exact ⟨ret_int Hla.out, hb3⟩

theorem great13_all : ∀ N, Great13At N
  | 0 => fun x xc w left deep hs => absurd hs (by omega)
  | N + 1 => fun x xc w left deep hs hx h0 h1 h2 h3 => great13_at N (great13_all N) x xc w left deep hs hx h0 h1 h2 h3

set_option maxRecDepth 100000 in
set_option maxHeartbeats 4000000 in
theorem Great13_any (x : V) (xc : List Value) (w : World) (most : Int) (hx : VR (frag w) x xc) (h0 : 0 ≤ most) (h1 : most ≤ 1000) :
    Calls Tryd.prog 7 #[.agg xc.toArray, .int .i64 most] w fun e w' => e = .returned (.bool (decide (gr x most 30 < 0))) ∧ Below w.heap.size w w' := by
  have HC := Lib.hid (fun (wx : World) (hb : Below w.heap.size w wx) => great13_all _ x xc wx most 30 (Nat.lt_succ_self _) (hx.mono (below_le hb)) h0 h1 (by decide) (by decide))
  have HL := Lib.hid hx.len
  clear hx
  generalize gr x most 30 = r at *
  go_enter Tryd.func7, Tryd.ntmps7
  go_wp2_with (first
    | (refine wpList_box_lay rfl 27 _ rfl _ rfl ?_; (intro w0 g0 hg0 hB0 hb0; have r0 := hB0.whole))
    | (refine wpList_load_seg rfl 27 _ rfl _ _ rfl _ _ r0 Tryd.underlying27 rfl ?_ ?_; (· exact infoV.trans (congrArg some HL.out.symm)))
    | (go_at_call 14; (with_reducible refine (HC.out _ hb0).mono ?_); rintro e w3 ⟨rfl, hb3⟩; replace hb0 := hb0.trans (hb3.mono hb0.size); clear r0 hb3))
  go_ret
  exact ⟨rfl, hb0⟩

end Go.Proofs.YtkldcjlkeblggaaDoor
