/- redlineref23.Value, walked, given do. redlineref13.With, walked. Plain facts. -/
import Derived.Test.YtebekgdjknenlaaGreatDoorGpAY
set_option maxRecDepth 100000
set_option maxHeartbeats 8000000
set_option linter.unusedVariables false
set_option linter.unusedSimpArgs false
namespace Go.Proofs.YtebekgdjknenlaaGreatDoor
open Go.RowKit
open Val (V E v0 right cmp eright Res ado avalue esm vmx esz)
def RDoSaid : Prop := ∀ (F : List (Option Nat)) (e : E) (v : V) (ec vc : List Value) (w : World), (∀ k, some k ∈ F → k < w.heap.size) → eright e = true → right v = true → esm e → vmx v + esz e ≤ 90000 → ER (fragE w F) e ec → VR (fragE w F) v vc →
 Calls Tryz.prog 22 #[.agg ec.toArray, .agg vc.toArray] w (RetN F w (ado e v))
theorem rval_any (HD : RDoSaid) (F : List (Option Nat)) (e : E) (v : V) (ec vc : List Value) (w : World) (hF : ∀ k, some k ∈ F → k < w.heap.size) (hm : esm e) (hev : Val.evsm e) (hvs : Val.vsm v) (hbd : vmx v + esz e ≤ 90000) (he : ER (fragE w F) e ec) (hv : VR (fragE w F) v vc) :
  Calls Tryz.prog 9 #[.agg ec.toArray, .agg vc.toArray] w (RetN F w (avalue e v)) := by
 have HLe := Yq he.shape.len
 have HLv := Yq hv.len
 have HRe := Yq (fun (w0 : World) (hb : Below w.heap.size w w0) => rr21_any e ec w0 hm hev (he.mono ((fragE_le w F).trans (below_le hb))))
 have HRv := Yq (fun (w0 : World) (hb : Below w.heap.size w w0) => rright_any v vc w0 hvs (hv.mono ((fragE_le w F).trans (below_le hb))))
 have HDo : Hid (eright e = true → right v = true → ∀ (w0 : World) (hb : Below w.heap.size w w0) (g : Nat), w.heap.size ≤ g → g < w0.heap.size → Calls Tryz.prog 22 #[.agg ec.toArray, .agg vc.toArray] w0 (RetN (some g :: F) w0 (ado e v))) := fun h1 h2 w0 hb g hg hlt => by
  have hle : FLe (fragE w F) (fragE w0 (some g :: F)) := belowE hb (fun j hj => by
   rcases List.mem_cons.1 hj with hj | hj
   ·cases hj; exact .inr hg
   ·exact .inl hj)
  exact HD (some g :: F) e v ec vc w0 (fun j hj => by
   rcases List.mem_cons.1 hj with hj | hj
   ·cases hj; exact hlt
   ·exact Nat.lt_of_lt_of_le (hF j hj) hb.size) h1 h2 hm hbd (he.mono hle) (hv.mono hle)
 have hA : avalue e v = if eright e = true ∧ right v = true then ado e v else .bad 9 := rfl
 rw [hA]
 clear hA he hv hm hev hvs hbd hF
 generalize hpe : eright e = pe at *
 generalize hpr : right v = pr at *
 clear hpe hpr
 generalize hR0 : (if pe = true ∧ pr = true then ado e v else Res.bad 9) = R0
 go_enter Tryz.func9, Tryz.ntmps9
 have HO := Own.nil w
 go_upto_region 1 with (first
 | ((with_reducible refine atOp (.box 52 _) ?_); refine wpList_box_own rfl 52 _ rfl ec rfl HO ?_; clear HO; intro w1 g1 HO)
 | ((with_reducible refine atOp (.box 40 _) ?_); refine wpList_box_own rfl 40 _ rfl vc rfl HO ?_; clear HO; intro w1 gx HO)
 | ((with_reducible refine atOp (.alloc 40) ?_); refine wpList_alloc_own rfl 40 rfl zV zeroRV HO ?_; clear HO; intro w2 g4 HO)
 | fail)
 have hee := (HO.at 2 rfl).whole
 have hvv := (HO.at 1 rfl).whole
 cases pe with
 | false =>
  obtain rfl : Res.bad 9 = R0 := by rw [← hR0, if_neg (fun h => by cases h.1)]
  clear hR0
  go_wp2_with (first
   | ((with_reducible refine atOp (.load 52 _) ?_); refine wpList_load_seg rfl 52 _ rfl _ _ rfl _ _ hee Tryz.underlying52 rfl (iC infoRE HLe) ?_)
   | ((with_reducible refine atOp (.load 40 _) ?_); refine wpList_load_seg rfl 40 _ rfl _ _ rfl _ _ hvv Tryz.underlying40 rfl (iC infoRV HLv) ?_)
   | (go_at_call 20; (with_reducible refine (HRe.out _ HO.below).mono ?_); rintro e1 w7 ⟨rfl, hbc⟩; replace HO := HO.call hbc; clear hbc hee hvv; have hee := (HO.at 2 rfl).whole; have hvv := (HO.at 1 rfl).whole)
   | (go_at_call 21; (with_reducible refine (HRv.out _ HO.below).mono ?_); rintro e1 w8 ⟨rfl, hbc⟩; replace HO := HO.call hbc; clear hbc hee hvv; have hee := (HO.at 2 rfl).whole; have hvv := (HO.at 1 rfl).whole)
   | (refine wpList_build0 rfl 40 rfl _ rp_build ?_)
   | ((with_reducible refine atOp (.store 40 _ _) ?_); refine wpList_store_own 0 rfl 40 _ _ rfl _ 0 (cP 0 (.slice none 0 0)) rfl rfl HO rfl infoRV (Nat.le_refl _) (one_cP rfl) rfl ?_; clear HO; intro w5 HO)
   | fail)
  refine bodyPost_ret (v := .tuple #[.agg zV.toArray, .int .i64 9]) ?_ rfl ⟨HO.below, rfl⟩
  exact results2_blk rfl _ _ g4 zV _ rfl rfl (HO.at 0 rfl) _ Tryz.underlying40 rfl infoRV
 | true =>
  cases pr with
  | false =>
   obtain rfl : Res.bad 9 = R0 := by rw [← hR0, if_neg (fun h => by cases h.2)]
   clear hR0
   go_wp2_with (first
    | ((with_reducible refine atOp (.load 52 _) ?_); refine wpList_load_seg rfl 52 _ rfl _ _ rfl _ _ hee Tryz.underlying52 rfl (iC infoRE HLe) ?_)
    | ((with_reducible refine atOp (.load 40 _) ?_); refine wpList_load_seg rfl 40 _ rfl _ _ rfl _ _ hvv Tryz.underlying40 rfl (iC infoRV HLv) ?_)
    | (go_at_call 20; (with_reducible refine (HRe.out _ HO.below).mono ?_); rintro e1 w7 ⟨rfl, hbc⟩; replace HO := HO.call hbc; clear hbc hee hvv; have hee := (HO.at 2 rfl).whole; have hvv := (HO.at 1 rfl).whole)
    | (go_at_call 21; (with_reducible refine (HRv.out _ HO.below).mono ?_); rintro e1 w8 ⟨rfl, hbc⟩; replace HO := HO.call hbc; clear hbc hee hvv; have hee := (HO.at 2 rfl).whole; have hvv := (HO.at 1 rfl).whole)
    | (refine wpList_build0 rfl 40 rfl _ rp_build ?_)
    | ((with_reducible refine atOp (.store 40 _ _) ?_); refine wpList_store_own 0 rfl 40 _ _ rfl _ 0 (cP 0 (.slice none 0 0)) rfl rfl HO rfl infoRV (Nat.le_refl _) (one_cP rfl) rfl ?_; clear HO; intro w5 HO)
    | fail)
   refine bodyPost_ret (v := .tuple #[.agg zV.toArray, .int .i64 9]) ?_ rfl ⟨HO.below, rfl⟩
   exact results2_blk rfl _ _ g4 zV _ rfl rfl (HO.at 0 rfl) _ Tryz.underlying40 rfl infoRV
  | true =>
   obtain rfl : ado e v = R0 := by rw [← hR0, if_pos ⟨rfl, rfl⟩]
   clear hR0
   have HD2 := Yq (HDo.out rfl rfl)
   clear HDo
   generalize ado e v = R at *
   go_upto_region 3 with (first
 | ((with_reducible refine atOp (.load 52 _) ?_); refine wpList_load_seg rfl 52 _ rfl _ _ rfl _ _ hee Tryz.underlying52 rfl (iC infoRE HLe) ?_)
 | ((with_reducible refine atOp (.load 40 _) ?_); refine wpList_load_seg rfl 40 _ rfl _ _ rfl _ _ hvv Tryz.underlying40 rfl (iC infoRV HLv) ?_)
 | (go_at_call 20; (with_reducible refine (HRe.out _ HO.below).mono ?_); rintro e1 w7 ⟨rfl, hbc⟩; replace HO := HO.call hbc; clear hbc hee hvv; have hee := (HO.at 2 rfl).whole; have hvv := (HO.at 1 rfl).whole)
 | (go_at_call 21; (with_reducible refine (HRv.out _ HO.below).mono ?_); rintro e1 w8 ⟨rfl, hbc⟩; replace HO := HO.call hbc; clear hbc hee hvv; have hee := (HO.at 2 rfl).whole; have hvv := (HO.at 1 rfl).whole)
 | fail)
   have HD3 := Yq (HD2.out _ HO.below g4 (HO.ge 0 rfl) (HO.at 0 rfl).lt)
   cases R with
   | bad b =>
    go_wp2_with (first
 | ((with_reducible refine atOp (.load 52 _) ?_); refine wpList_load_seg rfl 52 _ rfl _ _ rfl _ _ hee Tryz.underlying52 rfl (iC infoRE HLe) ?_)
 | ((with_reducible refine atOp (.load 40 _) ?_); refine wpList_load_seg rfl 40 _ rfl _ _ rfl _ _ hvv Tryz.underlying40 rfl (iC infoRV HLv) ?_)
 | (go_at_call 22; (with_reducible refine HD3.out.mono ?_); rintro e1 w9 ⟨hbc, rfl⟩; replace HO := HO.call hbc; clear hbc)
 | ((with_reducible refine atOp (.store 40 _ _) ?_); refine wpList_store_own 0 rfl 40 _ _ rfl _ 0 zV rfl rfl HO rfl infoRV (Nat.le_refl _) zV1 rfl ?_; clear HO; intro w5 HO)
 | fail)
    refine bodyPost_ret (v := .tuple #[.agg zV.toArray, .int .i64 b]) ?_ rfl ⟨HO.below, rfl⟩
    exact results2_blk rfl _ _ g4 zV _ rfl rfl (HO.at 0 rfl) _ Tryz.underlying40 rfl infoRV
   | ok x =>
    go_wp2_with (first
 | ((with_reducible refine atOp (.load 52 _) ?_); refine wpList_load_seg rfl 52 _ rfl _ _ rfl _ _ hee Tryz.underlying52 rfl (iC infoRE HLe) ?_)
 | ((with_reducible refine atOp (.load 40 _) ?_); refine wpList_load_seg rfl 40 _ rfl _ _ rfl _ _ hvv Tryz.underlying40 rfl (iC infoRV HLv) ?_)
 | (go_at_call 22; (with_reducible refine HD3.out.mono ?_); rintro e1 w9 ⟨hbc, xc, rfl, hx⟩; replace HO := HO.call hbc; have Hx := Yq hx; have HLx := Yq hx.len; have HOx := Yq hx.ones; clear hbc hx)
 | ((with_reducible refine atOp (.store 40 _ _) ?_); refine wpList_store_blk rfl 40 _ _ rfl _ 0 xc rfl rfl zV (HO.at 0 rfl) (iC infoRV HLx) (by rw [HLx.out]; decide) HOx.out ?_; intro w5 hB hg _; have hV : VR (fragE w5 F) x xc := Hx.out.mono (grownE hg (.inr (by simp)) (fun j hj => .inl (by simp [hj]))); have hb5 := (HO.set 0 (ds := patch zV 0 xc) rfl hB hg).below; rw [patch_whole' _ _ (by rw [HLx.out]; rfl)] at hB; clear HO)
 | fail)
    refine bodyPost_ret (v := .tuple #[.agg xc.toArray, .int .i64 0]) ?_ rfl ⟨hb5, xc, rfl, hV⟩
    exact results2_blk rfl _ _ g4 xc _ rfl rfl hB _ Tryz.underlying40 rfl (iC infoRV HLx)
open Val (V v0 mkM mkP)
theorem rwith_three (F : List (Option Nat)) (nn : Int) (t r : ByteArray) (f : List (Int × V)) (l : List V) (ps : List (V × V)) (n : Int) (x : V) (vc xc : List Value) (w : World) (hF : ∀ k, some k ∈ F → k < w.heap.size) (hn1 : 1 ≤ n) (hn2 : n ≤ 536870911) (hlen : f.length ≤ 100000) (hv : VR (fragE w F) (.mk 3 nn t f r l ps) vc) (hx : VR (fragE w F) x xc) :
  Calls Tryz.prog 47 #[.agg vc.toArray, .int .i64 n, .agg xc.toArray] w (RetRV F w (mkM (Val.gl Val.ocmp n x f (decide (x.kind = 0))) r)) := by
 have HXx : Hid (VR (fragE w F) x xc) := hx
 have HLx := Yq hx.len
 have HK0 := Yq hx.k0
 have HOx := Yq hx.ones
 have HLnx : Hid ((Value.int .i64 n :: xc).length = 8) := by show _ = _; rw [List.length_cons, hx.len]
 have H1nx : Hid (∀ u ∈ Value.int .i64 n :: xc, u.oneCell' = true) := fun u hu => by
  rcases List.mem_cons.1 hu with rfl | hu
  ·rfl
  ·exact hx.ones u hu
 have HBd : Hid (∀ w, (Instr.build 63 #[(0, .int .i64 n), (1, .agg xc.toArray)]).run Tryz.prog w = .ok (.agg (Value.int .i64 n :: xc).toArray) w) := fun w => run_build2 (c0 := [.int .i64 n]) (c1 := xc) Tryz.underlying63 zeroRF rfl rfl oinfI (iC infoRV HLx) (by rw [HLx.out]; rfl) rfl rfl w
 rw [VR] at hv
 obtain ⟨fv0, lv0, pv0, fe, le, pe, hxc, h2, ⟨h3, h4, h5⟩, h6, h7, h8⟩ := hv
 obtain ⟨a1, c1, e1, b1, b2, b3⟩ := h3.len
 subst e1
 have HX1 : Hid (FlatC 8 (fragE w F) (.slice a1 fe.length c1) fe ∧ FsR (fragE w F) f fe) := ⟨h3, h6⟩
 have Hm1 := Yq h6.len
 have Hr := Yq h2.2
 have HC1 := Yq (fun (w2 : World) (g : Nat) (hB : Blk w2 g vc) => (show w2.cell? ⟨g, 0, none⟩ = some (.int .i64 3) ∧ w2.cell? ⟨g, 4, none⟩ = some (.string r) ∧ w2.cell? ⟨g, 3, none⟩ = some (.slice a1 fe.length c1) by
  subst hxc; exact ⟨hB.cell rfl, hB.cell rfl, hB.cell rfl⟩))
 obtain ⟨ns, hn⟩ : ∃ z, z = fe.length := ⟨_, rfl⟩
 rw [← hn] at HC1
 rw [← hn] at HX1
 have Hn := Yq hn.symm
 have hns : ns ≤ 9223372036854775807 := by unfold maxLen at b2; omega
 have HFw := Yq hF
 obtain ⟨total, htot⟩ : ∃ z, z = Val.gl Val.ocmp n x f (decide (x.kind = 0)) := ⟨_, rfl⟩
 rw [← htot]
 have Htl : Hid (total.length ≤ 200001) := by show _ ≤ _; rw [htot]; have h1 := Val.gl_len (c := Val.ocmp) (n := n) (x := x) f (decide (x.kind = 0)); omega
 generalize hxk : x.kind = xk at htot
 have Hxk := Yq hxk; have Htot := Yq htot
 have hd1 : decide (n < 1) = false := decide_eq_false (by omega)
 have hd2 : decide (536870911 < n) = false := decide_eq_false (by omega)
 clear hxc h2 h3 h4 h5 h6 h7 h8 b1 b2 b3 hF hn hx hlen hxk htot
 go_enter Tryz.func47, Tryz.ntmps47
 have HO := Own.nil w
 go_upto_region 1 with (first
  | ((with_reducible refine atOp (.box 40 _) ?_); refine wpList_box_own rfl 40 _ rfl vc rfl HO ?_; clear HO; intro w1 g1 HO)
  | ((with_reducible refine atOp (.box 40 _) ?_); refine wpList_box_own rfl 40 _ rfl xc rfl HO ?_; clear HO; intro w1 gx HO)
  | ((with_reducible refine atOp (.alloc 40) ?_); refine wpList_alloc_own rfl 40 rfl zV zeroRV HO ?_; clear HO; intro w2 g2 HO)
  | fail)
 obtain ⟨q0, q4, q3⟩ := HC1.out _ _ (HO.at 2 rfl)
 go_upto_region 4 with (first
  | (refine wpList_bld2 rfl 40 0 4 _ _ rfl (.int .i64 3) (.string r) _ rfl rfl (rw_build r) ?_; clear q0 q4 q3)
  | ((with_reducible refine atOp (.alloc 40) ?_); refine wpList_alloc_own rfl 40 rfl zV zeroRV HO ?_; clear HO; intro w3 g3 HO)
  | ((with_reducible refine atOp (.store 40 _ _) ?_); refine wpList_store_own 0 rfl 40 _ _ rfl _ 0 (cM r (.slice none 0 0)) rfl rfl HO rfl infoRV (Nat.le_refl _) (one_cM rfl) rfl ?_; clear HO; intro w4 HO)
  | fail)
 have HO1 := Yq (OwnR.start HO [rowC 63 8 (.slice none 0 0) []] (fun r hr => by simp only [List.mem_singleton] at hr; subst hr; exact ⟨rfl, rfl, rfl⟩))
 have qx : w4.cell? ⟨gx, 0, none⟩ = some (.int .i64 xk) := by rw [← Hxk.out]; exact (HO.at 2 rfl).cell HK0.out
 obtain ⟨_, _, q3⟩ := HC1.out _ _ (HO.at 3 rfl)
 clear HO
 go_wp2_with fail
 clear qx q3
 go_simp
 go_loopw [8, 32] (fun u i wr => ∃ (k : Nat) (d : Bool) (o : List (Int × V)) (u3 : Value) (es : List (List Value)), k ≤ ns ∧ u = .bool d ∧ i = .int .i64 k ∧ Hid (OwnR w [(g3, cM r u3), (g2, zV), (gx, xc), (g1, vc)] [rowC 63 8 u3 es] (fun _ => True) wr) ∧ Hid (FsR (fragE w F) o es) ∧ Hid (o ++ Val.gl Val.ocmp n x (f.drop k) d = total)) (fun _ i _ => ns - (intOf i).toNat)
 case atStart => exact ⟨0, _, [], _, [], Nat.zero_le _, rfl, rfl, HO1, (by show FsR _ _ _; rw [FsR]), (by show [] ++ Val.gl Val.ocmp n x (f.drop 0) _ = total; rw [Htot.out]; simp only [List.nil_append, List.drop_zero]; rfl)⟩
 case round =>
  obtain ⟨k, d, o, u3, es, hkn, rfl, rfl, HO, HFs, HE⟩ := hrel
  replace HO := HO.out
  have Heo : Hid (es.length = o.length) := HFs.out.len
  have Hol : Hid (o.length ≤ 200001) := by show _ ≤ _; have h1 := congrArg List.length HE.out; have h2 := Htl.out; simp only [List.length_append] at h1; omega
  have Hu3 : u3.oneCell' = true := own_one (HO.rows.own (rowC 63 8 u3 es) (by simp))
  by_cases hlt : k < ns
  ·have hks : k < fe.length := by rw [Hn.out]; exact hlt
   have hkf : k < f.length := by rw [← Hm1.out, Hn.out]; exact hlt
   obtain ⟨b0, o0, hb0, hidx, hcell⟩ := FlatC.at (n := ns) (cap := c1) (a := a1) (HX1.out.1.mono (fragE_le _ _)) (by decide) (i := k) hks Tryz.underlying36 sizeRF
   have hr : wr.rangeAt b0 o0 fe[k] := range_below hcell HO.below hb0
   obtain ⟨exc, hx, rx⟩ := HX1.out.2.at hkf hks
   have HXe : Hid (VR (fragE w F) f[k].2 exc) := rx
   have HL8 : Hid ((Value.int .i64 f[k].1 :: exc).length = 8) := by show _ = _; rw [List.length_cons, rx.len]
   have H1 : Hid (∀ u ∈ Value.int .i64 f[k].1 :: exc, u.oneCell' = true) := fun u hu => by
    rcases List.mem_cons.1 hu with rfl | hu
    ·rfl
    ·exact rx.ones u hu
   rw [hx] at hr
   have HWc := Yq (Val.gl_cons (c := Val.ocmp) n x hkf d)
   rw [HWc.out] at HE
   have hfk : f[k] = (f[k].1, f[k].2) := rfl
   rw [hfk] at HE
   clear hcell hx rx hfk HWc
   generalize f[k].1 = num at *
   generalize f[k].2 = ex at *
   generalize hrest : f.drop (k + 1) = rest at *
   have Hrest := Yq hrest; clear hrest
   clear hkf hks
   go_upto_region 8 with (first
   | ((with_reducible refine atOp (.load 63 _) ?_); refine wpList_load_seg rfl 63 _ rfl _ _ rfl _ _ hr Tryz.underlying63 rfl (iC infoRF HL8) ?_)
   | ((with_reducible refine atOp (.alloc 63) ?_); refine wpList_alloc_ownR rfl 63 rfl (.int .i64 0 :: zV) zeroRF HO ?_; clear HO; intro w6 g10 HO)
   | ((with_reducible refine atOp (.store 63 _ _) ?_); refine wpList_store_ownR 0 rfl 63 _ _ rfl _ 0 (Value.int .i64 num :: exc) rfl rfl HO rfl (iC infoRF HL8) (by rw [HL8.out]; decide) H1.out (patch_whole' _ _ (by rw [HL8.out]; rfl)) ?_; clear HO hr hidx; intro wc0 HO)
   | fail)
   have qn : wc0.cell? ⟨g10, 0, none⟩ = some (.int .i64 num) := (HO.own.at 0 rfl).cell rfl
   have HE1 : Hid (o ++ ((if d = false ∧ n ≤ num then [(n, x)] else []) ++ ((if num = n then [] else [(num, ex)]) ++ Val.gl Val.ocmp n x rest (d || decide (n ≤ num)))) = total) := Yq (by
    have heq : (Val.ocmp num n = 0) ↔ (num = n) := ⟨Val.ocmp_zero, fun h => h ▸ Val.ocmp_refl _⟩
    have h := HE.out
    simp only [Val.ocmp_nn, heq] at h
    exact h)
   replace HE := HE1
   clear HE1
   go_simp
   go_cut [43] from 33 to 62 (fun st wx => st = .bool (!d && decide (n ≤ num)) ∧ wx = wc0)
   case first =>
    cases d
    ·go_wp2_with fail
     go_meet
     exact ⟨by simp, rfl⟩
    ·go_wp2_with fail
     go_meet
     exact ⟨rfl, rfl⟩
   case rest =>
    obtain ⟨rfl, rfl⟩ := hcut
    clear qn
    go_upto_if 43 with fail
    go_cut [8] from 33 to 62 (fun s8 wx => ∃ (u4 : Value) (es4 : List (List Value)) (o4 : List (Int × V)), s8 = .bool (d || decide (n ≤ num)) ∧ Hid (OwnR w ((g10, Value.int .i64 num :: exc) :: [(g3, cM r u4), (g2, zV), (gx, xc), (g1, vc)]) [rowC 63 8 u4 es4] (fun _ => True) wx) ∧ Hid (FsR (fragE w F) o4 es4) ∧ Hid (o4 = o ++ (if d = false ∧ n ≤ num then [(n, x)] else [])))
    case first =>
     by_cases ht : d = false ∧ n ≤ num
     ·have htb : (!d && decide (n ≤ num)) = true := by simp [ht.1, ht.2]
      have Ht := Yq ht
      clear ht
      rw [htb]
      have q4 : wc.cell? ⟨g3, 3, none⟩ = some u3 := (HO.own.at 1 rfl).cell rfl
      have hn5 : (es.length + 1) * 128 ≤ 140737488355328 := by rw [Heo.out]; have := Hol.out; omega
      have hvx := (HO.own.at 3 rfl).whole
      go_wp2_with (first
       | ((with_reducible refine atOp (.load 40 _) ?_); refine wpList_load_seg rfl 40 _ rfl _ _ rfl _ _ hvx Tryz.underlying40 rfl (iC infoRV HLx) ?_)
       | ((with_reducible refine atOp (.build 63 _) ?_); refine wpList_bld2 rfl 63 0 1 _ _ rfl (.int .i64 n) (.agg xc.toArray) _ rfl rfl HBd.out ?_)
       | ((with_reducible refine atOp (.buildSlice 36 _ _) ?_); refine wpList_buildSlice1 rfl 36 63 _ rfl (.int .i64 n :: xc) (.agg (Value.int .i64 n :: xc).toArray) rfl Tryz.underlying36 (by rw [HLnx.out]; exact info2RF) (by rw [HLnx.out]; decide) (by rw [HLnx.out]; decide) rfl ?_)
       | (at_builtin; refine wpList_append_ownR (L := []) (M := []) T_RF rfl _ _ rfl (Value.int .i64 n :: xc) HO rfl rfl HLnx.out H1nx.out hn5 ?_; clear HO hvx; intro u9 w9 HO hone9)
       | ((with_reducible refine atOp (.store 36 _ _) ?_); refine wpList_store_ownR1 (ds := cM r u9) 1 rfl 36 _ _ rfl _ 3 u9 rfl rfl HO rfl info1RF ?_ hone9 rfl ?_; (· show 3 + 1 ≤ 7; decide); (clear HO; intro w10 HO9))
       | fail)
      go_meet
      refine ⟨u9, es ++ [Value.int .i64 n :: xc], o ++ [(n, x)], ?_, ?_, ?_, ?_⟩
      ·simp [Ht.out.2]
      ·exact Yq (by rw [rowC_snoc]; exact HO9)
      ·exact Yq (FsR.snoc HFs.out HXx.out)
      ·exact Yq (by rw [if_pos Ht.out])
     ·have htb : (!d && decide (n ≤ num)) = false := by cases d <;> simp at ht ⊢; exact ht
      have Ht := Yq ht
      clear ht
      rw [htb]
      go_wp2_with fail
      go_meet
      refine ⟨u3, es, o, ?_, Yq HO, HFs, ?_⟩
      ·have h := Ht.out; cases d <;> simp at h ⊢; exact h
      ·exact Yq (by rw [if_neg Ht.out, List.append_nil])
    case rest =>
     obtain ⟨u4, es4, o4, rfl, HO4, HFs4, HE4⟩ := hcut
     replace HO := HO4.out
     clear HO4 HFs Heo Hol Hu3
     have Heo : Hid (es4.length = o4.length) := HFs4.out.len
     have Hol : Hid (o4.length ≤ 200001) := by show _ ≤ _; have h1 := congrArg List.length HE.out; have h2 := Htl.out; rw [← List.append_assoc, ← HE4.out] at h1; simp only [List.length_append] at h1; omega
     have Hu4 : u4.oneCell' = true := own_one (HO.rows.own (rowC 63 8 u4 es4) (by simp))
     by_cases he : num = n
     ·have HRl : Hid (o4 ++ Val.gl Val.ocmp n x rest (d || decide (n ≤ num)) = total) := by show _ = _; rw [← HE.out, HE4.out, if_pos he]; simp
      have qn : wc.cell? ⟨g10, 0, none⟩ = some (.int .i64 num) := (HO.own.at 0 rfl).cell rfl
      have he2 : (num != n) = false := by simp [he]
      have He := Yq he; clear he
      go_wp2_with fail
      go_roundw
      case rel => exact ⟨k + 1, _, o4, u4, es4, by omega, rfl, by go_num, Yq (HO.sub (.cons _ (List.Sublist.refl _))), HFs4, (by show o4 ++ Val.gl Val.ocmp n x (f.drop (k + 1)) _ = total; rw [Hrest.out]; exact HRl.out)⟩
      case measure => simp [intOf]; omega
     ·have HRl : Hid (o4 ++ [(num, ex)] ++ Val.gl Val.ocmp n x rest (d || decide (n ≤ num)) = total) := by show _ = _; rw [← HE.out, HE4.out, if_neg he]; simp
      have Hol2 : Hid (o4.length + 1 ≤ 200001) := by show _ ≤ _; have h1 := congrArg List.length HRl.out; have h2 := Htl.out; simp only [List.length_append, List.length_cons, List.length_nil] at h1; omega
      have qn : wc.cell? ⟨g10, 0, none⟩ = some (.int .i64 num) := (HO.own.at 0 rfl).cell rfl
      have he2 : (num != n) = true := by simp [he]
      have He := Yq he; clear he
      have q4 : wc.cell? ⟨g3, 3, none⟩ = some u4 := (HO.own.at 1 rfl).cell rfl
      have hn5 : (es4.length + 1) * 128 ≤ 140737488355328 := by rw [Heo.out]; have := Hol2.out; omega
      have hve := (HO.own.at 0 rfl).whole
      go_wp2_with (first
       | ((with_reducible refine atOp (.load 63 _) ?_); refine wpList_load_seg rfl 63 _ rfl _ _ rfl _ _ hve Tryz.underlying63 rfl (iC infoRF HL8) ?_)
       | ((with_reducible refine atOp (.buildSlice 36 _ _) ?_); refine wpList_buildSlice1 rfl 36 63 _ rfl (.int .i64 num :: exc) (.agg (Value.int .i64 num :: exc).toArray) rfl Tryz.underlying36 (by rw [HL8.out]; exact info2RF) (by rw [HL8.out]; decide) (by rw [HL8.out]; decide) rfl ?_)
       | (at_builtin; refine wpList_append_ownR (L := []) (M := []) T_RF rfl _ _ rfl (Value.int .i64 num :: exc) HO rfl rfl HL8.out H1.out hn5 ?_; clear HO hve; intro u9 w9 HO hone9)
       | ((with_reducible refine atOp (.store 36 _ _) ?_); refine wpList_store_ownR1 (ds := cM r u9) 1 rfl 36 _ _ rfl _ 3 u9 rfl rfl HO rfl info1RF ?_ hone9 rfl ?_; (· show 3 + 1 ≤ 7; decide); (clear HO; intro w10 HO9))
       | fail)
      go_roundw
      case rel => exact ⟨k + 1, _, o4 ++ [(num, ex)], u9, es4 ++ [Value.int .i64 num :: exc], by omega, rfl, by go_num, Yq (by rw [rowC_snoc]; exact HO9.sub (.cons _ (List.Sublist.refl _))), Yq (FsR.snoc HFs4.out HXe.out), (by show (o4 ++ [(num, ex)]) ++ Val.gl Val.ocmp n x (f.drop (k + 1)) _ = total; rw [Hrest.out]; exact HRl.out)⟩
      case measure => simp [intOf]; omega
  ·obtain rfl : k = ns := by omega
   have HEd : Hid (o ++ (if d then [] else [(n, x)]) = total) := by
    show _ = _; rw [← HE.out, List.drop_of_length_le (by rw [← Hm1.out, Hn.out]; exact Nat.le_refl _), Val.gl]
   clear HE
   go_upto_if 64 with fail
   go_cut [] from 33 to 72 (fun wx => ∃ (u4 : Value) (es4 : List (List Value)), Hid (OwnR w [(g3, cM r u4), (g2, zV), (gx, xc), (g1, vc)] [rowC 63 8 u4 es4] (fun _ => True) wx) ∧ Hid (FsR (fragE w F) total es4))
   case first =>
    cases d with
    | false =>
     have HEd2 : Hid (o ++ [(n, x)] = total) := HEd.out
     clear HEd
     have q4 : wr.cell? ⟨g3, 3, none⟩ = some u3 := (HO.own.at 0 rfl).cell rfl
     have hn5 : (es.length + 1) * 128 ≤ 140737488355328 := by rw [Heo.out]; have := Hol.out; omega
     have hvx := (HO.own.at 2 rfl).whole
     go_wp2_with (first
      | ((with_reducible refine atOp (.load 40 _) ?_); refine wpList_load_seg rfl 40 _ rfl _ _ rfl _ _ hvx Tryz.underlying40 rfl (iC infoRV HLx) ?_)
      | ((with_reducible refine atOp (.build 63 _) ?_); refine wpList_bld2 rfl 63 0 1 _ _ rfl (.int .i64 n) (.agg xc.toArray) _ rfl rfl HBd.out ?_)
      | ((with_reducible refine atOp (.buildSlice 36 _ _) ?_); refine wpList_buildSlice1 rfl 36 63 _ rfl (.int .i64 n :: xc) (.agg (Value.int .i64 n :: xc).toArray) rfl Tryz.underlying36 (by rw [HLnx.out]; exact info2RF) (by rw [HLnx.out]; decide) (by rw [HLnx.out]; decide) rfl ?_)
      | (at_builtin; refine wpList_append_ownR (L := []) (M := []) T_RF rfl _ _ rfl (Value.int .i64 n :: xc) HO rfl rfl HLnx.out H1nx.out hn5 ?_; clear HO hvx; intro u9 w9 HO hone9)
      | ((with_reducible refine atOp (.store 36 _ _) ?_); refine wpList_store_ownR1 (ds := cM r u9) 0 rfl 36 _ _ rfl _ 3 u9 rfl rfl HO rfl info1RF ?_ hone9 rfl ?_; (· show 3 + 1 ≤ 7; decide); (clear HO; intro w10 HO9))
      | fail)
     go_meet
     exact ⟨u9, es ++ [Value.int .i64 n :: xc], Yq (by rw [rowC_snoc]; exact HO9), Yq (by rw [← HEd2.out]; exact FsR.snoc HFs.out HXx.out)⟩
    | true =>
     have HEd2 : Hid (o = total) := by show _ = _; rw [← HEd.out]; simp
     clear HEd
     go_wp2_with fail
     go_meet
     exact ⟨u3, es, Yq HO, Yq (by rw [← HEd2.out]; exact HFs.out)⟩
   case rest =>
    obtain ⟨u4, es4, HO4, HFs4⟩ := hcut
    replace HO := HO4.out
    clear HO4 HFs Hu3
    have Hu4 : u4.oneCell' = true := own_one (HO.rows.own (rowC 63 8 u4 es4) (by simp))
    go_wp2_with (first
     | ((with_reducible refine atOp (.load 40 _) ?_); refine wpList_load_ownR 0 rfl 40 _ rfl _ rfl HO rfl _ Tryz.underlying40 rfl infoRV ?_)
     | ((with_reducible refine atOp (.store 40 _ _) ?_); refine wpList_store_ownR 1 rfl 40 _ _ rfl _ 0 (cM r u4) rfl rfl HO rfl infoRV (Nat.le_refl _) (one_cM Hu4) rfl ?_; clear HO; intro wE HO)
     | fail)
    have hFl := FlatC.of_ownsU (HO.rows.own (rowC 63 8 u4 es4) (by simp)) (Nat.le_refl _) HFs4.out.sizes
    refine bodyPost_ret (v := .agg (cM r u4).toArray) ?_ rfl ⟨_, rfl, VR.msg Hr.out (hFl.mono (fragU_F wE HFw.out)) (HFs4.out.mono (belowE HO.below (fun _ h => .inl h))), HO.below⟩
    exact results_blk rfl _ _ g2 (cM r u4) rfl (HO.own.at 1 rfl) _ Tryz.underlying40 rfl infoRV
open Val (V E right efields ekeys ado get find withV putV partB cmp allF allK KI KP KeysOf)
theorem Val.efields_lt : ∀ (f : List (Int × E)) (last : Int), efields last f = true → (∀ e ∈ f, last < e.1) ∧ f.Pairwise (fun a b => a.1 < b.1)
 | [], last, _ => ⟨fun e h => by simp at h, List.Pairwise.nil⟩
 | (n, x) :: r, last, h => by
  rw [efields] at h
  simp only [Bool.and_eq_true, decide_eq_true_eq] at h
  obtain ⟨h1, h2⟩ := Val.efields_lt r n h.2
  refine ⟨fun e he => ?_, List.pairwise_cons.2 ⟨fun e he => h1 e he, h2⟩⟩
  rcases List.mem_cons.1 he with rfl | he
  ·exact h.1.1.1
  ·have := h1 e he; have := h.1.1.1; omega
def IntoOld (f : List (Int × E)) (v : V) (k : Nat) (y : V) : Prop := ∀ j (hj : j < f.length), k ≤ j → get y f[j].1 = get v f[j].1
theorem IntoOld.start (f : List (Int × E)) (v : V) : IntoOld f v 0 v := fun j hj _ => rfl
theorem IntoOld.step {f : List (Int × E)} {v y x : V} {k : Nat} (ho : IntoOld f v k y) (h : IntoInv f v k y) (hk : k < f.length) (hall : allF f) (hs : efields 0 f = true) : IntoOld f v (k + 1) (withV y f[k].1 x) := fun j hj hle => by
 have hlt : f[k].1 < f[j].1 := List.pairwise_iff_getElem.1 (Val.efields_lt f 0 hs).2 k j hk hj (by omega)
 rw [Val.get_with_ne h.2.1 h.2.2.1 (hall _ (List.getElem_mem hk)).1 (hall _ (List.getElem_mem hj)).1 (by omega)]
 exact ho j hj (by omega)
theorem Val.ekeys_lt : ∀ (ks : List (V × E)) (p : V), KP p.kind p → ekeys (some p) ks = true → (∀ e ∈ ks, KP p.kind e.1 ∧ cmp p e.1 < 0) ∧ ks.Pairwise (fun a b => KP a.1.kind b.1 ∧ cmp a.1 b.1 < 0)
 | [], p, _, _ => ⟨fun e h => by simp at h, List.Pairwise.nil⟩
 | (k, x) :: r, p, hp, h => by
  rw [ekeys.eq_def] at h
  simp only [Bool.and_eq_true, decide_eq_true_eq] at h
  obtain ⟨⟨⟨⟨h1, h2⟩, _⟩, h3, h4⟩, h5⟩ := h
  have hk : KP k.kind k := ⟨rfl, h1, h2⟩
  have hk2 : KP p.kind k := ⟨h3.symm, by rw [h3]; exact h1, h2⟩
  obtain ⟨g1, g2⟩ := Val.ekeys_lt r k hk h5
  refine ⟨fun e he => ?_, List.pairwise_cons.2 ⟨fun e he => g1 e he, g2⟩⟩
  rcases List.mem_cons.1 he with rfl | he
  ·exact ⟨hk2, h4⟩
  ·obtain ⟨q1, q2⟩ := g1 e he
   have q3 : KP p.kind e.1 := by rw [h3]; exact q1
   exact ⟨q3, (Val.ordP p.kind).trans hp hk2 q3 h4 q2⟩
theorem Val.ekeys_lt0 {ks : List (V × E)} (h : ekeys none ks = true) : ks.Pairwise (fun a b => KP a.1.kind b.1 ∧ cmp a.1 b.1 < 0) := by
 cases ks with
 | nil => exact List.Pairwise.nil
 | cons q r =>
  obtain ⟨k, x⟩ := q
  rw [ekeys.eq_def] at h
  simp only [Bool.and_eq_true, decide_eq_true_eq] at h
  obtain ⟨⟨⟨⟨h1, h2⟩, _⟩, _⟩, h5⟩ := h
  obtain ⟨g1, g2⟩ := Val.ekeys_lt r k ⟨rfl, h1, h2⟩ h5
  exact List.pairwise_cons.2 ⟨fun e he => g1 e he, g2⟩
def BookOld (f : List (V × E)) (v : V) (k : Nat) (y : V) : Prop := ∀ j (hj : j < f.length), k ≤ j → find y f[j].1 = find v f[j].1
theorem BookOld.start (f : List (V × E)) (v : V) : BookOld f v 0 v := fun j hj _ => rfl
theorem BookOld.step {f : List (V × E)} {v y x : V} {k : Nat} (ho : BookOld f v k y) (hk : k < f.length) (hall : allK f) (hs : ekeys none f = true) (hry : right y = true) (hko : KeysOf f[k].1.kind y) (hx : x.kind = 0 ∨ partB x = true) : BookOld f v (k + 1) (putV y f[k].1 x) := fun j hj hle => by
 obtain ⟨h1, h2⟩ := List.pairwise_iff_getElem.1 (Val.ekeys_lt0 hs) k j hk hj (by omega)
 have hkk : KP f[k].1.kind f[k].1 := (hall _ (List.getElem_mem hk)).1
 rw [Val.find_put_ne hry hko hkk h1 hx (fun e => by rw [e, Val.cmp_refl] at h2; omega)]
 exact ho j hj (by omega)
end Go.Proofs.YtebekgdjknenlaaGreatDoor
