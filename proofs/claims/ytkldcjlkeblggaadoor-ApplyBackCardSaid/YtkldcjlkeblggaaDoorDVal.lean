/- apply.Value and Fits, walked. -/
import Derived.Test.YtkldcjlkeblggaaDoorDDo
namespace Go.Proofs.YtkldcjlkeblggaaDoor
open Go.RowKit
open Val (V E cmp right eright esm esmF esmS esmK v0 Res ado adoF adoS adoK get find withV putV vmx vmxL esz eszF eszS eszK partB stepB allF allS allK mkL KI KP KeysOf headKind setRest)
set_option linter.unusedVariables false
set_option linter.unusedSimpArgs false

/-- what apply.Value answers -/
def Val.avalue (e : E) (v : V) : Res V := if eright e = true ∧ right v = true then ado e v else .bad 9

set_option maxRecDepth 100000 in
set_option maxHeartbeats 4000000 in
theorem value_any (er : Errs) (F : List (Option Nat)) (x : E) (v : V) (xc vc : List Value) (w : World) (hF : ∀ k, some k ∈ F → k < w.heap.size) (hm : esm x) (hb : vmx v + esz x ≤ 90000) (he : ErrsAt er w) (hx : ER (fragE w F) x xc) (hv : VR (fragE w F) v vc) :
    Calls Tryd.prog 8 #[.agg xc.toArray, .agg vc.toArray] w (RetR er F w (Val.avalue x v)) := by
  have HR1 := Lib.hid (fun (wx : World) (hb : Below w.heap.size w wx) => eright_any x xc wx hm ((hx.mono (fragE_le _ _)).mono (below_le hb)))
  have HR2 := Lib.hid (fun (wx : World) (hb : Below w.heap.size w wx) => right_any v vc wx ((hv.mono (fragE_le _ _)).mono (below_le hb)))
  have HE := Lib.hid (fun (wx : World) (hb : Below w.heap.size w wx) => (he.keep hb).f)
  have Hlt := Lib.hid (World.block_lt_of_cell? w _ he.f)
  have HLx := Lib.hid hx.shape.len; have HLv := Lib.hid hv.len
  have HF := Lib.hid hF
  by_cases hr : eright x = true ∧ right v = true
  · have HC : Hid (∀ (E : List (Option Nat)) (wx : World), (∀ k, some k ∈ E → k < wx.heap.size) → Below w.heap.size w wx → FLe (fragE w F) (fragE wx E) → Calls Tryd.prog 16 #[.agg xc.toArray, .agg vc.toArray] wx (RetR er E wx (ado x v))) := fun E wx hE hbw hle =>
      do_all er _ E x v xc vc wx hE (Nat.lt_succ_self _) hr.1 hr.2 hm hb (he.keep hbw) (hx.mono hle) (hv.mono hle)
    have HK : Hid (Val.avalue x v = ado x v) := if_pos hr
    rw [hr.1] at HR1
    rw [hr.2] at HR2
    clear hx hv hF he hm hb hr
    rw [HK.out]
    generalize ado x v = R at *
    go_enter Tryd.func8, Tryd.ntmps8
    go_wp2_with (first
      | (refine wpList_box_lay rfl 32 _ rfl _ rfl ?_; (intro w0 g0 hg0 hB0 hb0))
      | (refine wpList_box_lay rfl 27 _ rfl _ rfl ?_; (intro w1 g1 hg1 hB1 hb1; replace hB0 := hB0.below hb1 hB0.lt; replace hb0 := hb0.trans (hb1.mono hb0.size)))
      | (refine wpList_alloc_lay rfl 27 rfl zV zeroV ?_; (intro w2 g4 hg4 hB4 hb2; replace hB0 := hB0.below hb2 hB0.lt; replace hB1 := hB1.below hb2 hB1.lt; replace hg4 := Nat.le_trans hb0.size hg4; replace hb0 := hb0.trans (hb2.mono hb0.size); clear hb1 hb2;  have HFF : Hid (∀ k, some k ∈ some g4 :: F → k < w2.heap.size) := ff_of HF.out hb0 hB4.lt; have Hle : Hid (FLe (fragE w F) (fragE w2 (some g4 :: F))) := fle_of hb0 hg4; have HR0 : Hid (g0 < w2.heap.size ∧ g1 < w2.heap.size) := ⟨hB0.lt, hB1.lt⟩; have Hb := Lib.hid hb0; have r0 := hB0.whole; have r1 := hB1.whole; clear hB0 hB1 hg0 hg1 hb0))
      | (refine wpList_load_seg rfl 32 _ rfl _ _ rfl _ _ r0 Tryd.underlying32 rfl ?_ ?_; (· exact infoE.trans (congrArg some HLx.out.symm)))
      | (refine wpList_load_seg rfl 27 _ rfl _ _ rfl _ _ r1 Tryd.underlying27 rfl ?_ ?_; (· exact infoV.trans (congrArg some HLv.out.symm)))
      | (go_at_call 15; (with_reducible refine (HR1.out _ Hb.out).mono ?_); rintro e w5 ⟨rfl, hb5⟩; have Hb5 : Hid (Below w.heap.size w w5) := Hb.out.trans (hb5.mono Hb.out.size); have hb25 : Below w2.heap.size w2 w5 := hb5; replace hB4 := hB4.below hb5 hB4.lt; replace r0 := range_below r0 hb5 HR0.out.1; replace r1 := range_below r1 hb5 HR0.out.2; clear hb5)
      | (go_at_call 11; (with_reducible refine (HR2.out _ Hb5.out).mono ?_); rintro e w6 ⟨rfl, hb6⟩; have Hb6 : Hid (Below w.heap.size w w6) := Hb5.out.trans (hb6.mono Hb5.out.size); have Hb26 : Hid (Below w2.heap.size w2 w6) := hb25.trans (hb6.mono hb25.size); replace hB4 := hB4.below hb6 hB4.lt; replace r0 := range_below r0 hb6 (Nat.lt_of_lt_of_le HR0.out.1 hb25.size); replace r1 := range_below r1 hb6 (Nat.lt_of_lt_of_le HR0.out.2 hb25.size); clear hb6 hb25)
      | (go_at_call 16; (with_reducible refine (HC.out (some g4 :: F) w6 (fun k hk => Nat.lt_of_lt_of_le (HFF.out k hk) Hb26.out.size) Hb6.out (Hle.out.trans (belowE Hb26.out (fun _ h => .inl h)))).mono ?_); rintro e w3 hR; obtain ⟨cs, ev, rfl, hcl, hc1, hbR, hfin⟩ := hR.carry; have Hcl := Lib.hid hcl; have Hc1 := Lib.hid hc1; have Hfin := Lib.hid hfin; have Hb3 : Hid (Below w.heap.size w w3) := Hb6.out.trans (hbR.mono Hb6.out.size); replace hB4 := hB4.below hbR hB4.lt; clear hR hcl hc1 hbR hfin r0 r1)
      | (refine wpList_store_all rfl 27 _ _ rfl g4 cs rfl rfl zV hB4 ?_ ?_ ?_ ?_; (· exact infoV.trans (congrArg some Hcl.out.symm)); (· exact Hcl.out); (· exact Hc1.out); (intro w4 hB6 hgr6; have Hgr6 := Lib.hid hgr6; clear hgr6 hB4)))
    refine bodyPost_ret (v := .tuple #[.agg cs.toArray, ev]) (results2_blk rfl _ _ g4 cs ev rfl rfl hB6 _ Tryd.underlying27 rfl (infoV.trans (congrArg some Hcl.out.symm))) rfl ?_
    exact Hfin.out w w4 F (Below.grown Hb3.out Hgr6.out Hb3.out.size (fun _ e => by cases e; exact hg4)) (grownE Hgr6.out (.inr (by simp)) (fun k hk => .inl (List.mem_cons_of_mem _ hk)))
  · have HK : Hid (Val.avalue x v = .bad 9) := if_neg hr
    have Hcase : (eright x = false) ∨ (eright x = true ∧ right v = false) := by
      cases h1 : eright x with
      | false => exact .inl rfl
      | true =>
        right
        refine ⟨rfl, ?_⟩
        cases h2 : right v with
        | false => rfl
        | true => exact absurd ⟨h1, h2⟩ hr
    clear hx hv hF he hm hb hr
    rw [HK.out]
    rcases Hcase with h1 | ⟨h1, h2⟩
    all_goals
      rw [h1] at HR1
      try rw [h2] at HR2
      clear h1
      try clear h2
      go_enter Tryd.func8, Tryd.ntmps8
      go_wp2_with (first
        | (refine wpList_box_lay rfl 32 _ rfl _ rfl ?_; (intro w0 g0 hg0 hB0 hb0))
        | (refine wpList_box_lay rfl 27 _ rfl _ rfl ?_; (intro w1 g1 hg1 hB1 hb1; replace hB0 := hB0.below hb1 hB0.lt; replace hb0 := hb0.trans (hb1.mono hb0.size)))
        | (refine wpList_alloc_lay rfl 27 rfl zV zeroV ?_; (intro w2 g4 hg4 hB4 hb2; replace hB0 := hB0.below hb2 hB0.lt; replace hB1 := hB1.below hb2 hB1.lt; replace hg4 := Nat.le_trans hb0.size hg4; replace hb0 := hb0.trans (hb2.mono hb0.size); clear hb1 hb2;  have HFF : Hid (∀ k, some k ∈ some g4 :: F → k < w2.heap.size) := ff_of HF.out hb0 hB4.lt; have Hle : Hid (FLe (fragE w F) (fragE w2 (some g4 :: F))) := fle_of hb0 hg4; have HR0 : Hid (g0 < w2.heap.size ∧ g1 < w2.heap.size) := ⟨hB0.lt, hB1.lt⟩; have Hb := Lib.hid hb0; have r0 := hB0.whole; have r1 := hB1.whole; clear hB0 hB1 hg0 hg1 hb0))
        | (refine wpList_load_seg rfl 32 _ rfl _ _ rfl _ _ r0 Tryd.underlying32 rfl ?_ ?_; (· exact infoE.trans (congrArg some HLx.out.symm)))
        | (refine wpList_load_seg rfl 27 _ rfl _ _ rfl _ _ r1 Tryd.underlying27 rfl ?_ ?_; (· exact infoV.trans (congrArg some HLv.out.symm)))
        | (go_at_call 15; (with_reducible refine (HR1.out _ Hb.out).mono ?_); rintro e w5 ⟨rfl, hb5⟩; have Hb5 : Hid (Below w.heap.size w w5) := Hb.out.trans (hb5.mono Hb.out.size); have Hb25 := Lib.hid hb5; replace hB4 := hB4.below hb5 hB4.lt; replace r0 := range_below r0 hb5 HR0.out.1; replace r1 := range_below r1 hb5 HR0.out.2; clear hb5)
        | (go_at_call 11; (with_reducible refine (HR2.out _ Hb5.out).mono ?_); rintro e w6 ⟨rfl, hb6⟩; have Hb6 : Hid (Below w.heap.size w w6) := Hb5.out.trans (hb6.mono Hb5.out.size); replace hB4 := hB4.below hb6 hB4.lt; replace Hb5 := Hb6; clear hb6 Hb6))
      have hE := HE.out _ Hb5.out
      have HB4 := Lib.hid hB4
      obtain ⟨⟨z0, z1, z2, z3, z4, z5, z6⟩, f0, f1, f2, f3, f4, f5, f6⟩ := hB4.zero
      have n1 : ¬ g4 = 0 := fun e => absurd hg4 (by have := Hlt.out; omega)
      have n2 : ¬ 0 = g4 := fun e => n1 e.symm
      clear hB4 r0 r1
      go_region
      all_goals
        go_wp2_with fail
        refine bodyPost_ret (v := .tuple #[.agg zV.toArray, er.f]) (results2_blk rfl _ _ g4 zV _ rfl rfl ?_ _ Tryd.underlying27 rfl infoV) rfl ⟨?_, rfl⟩
        · exact blk_zeroed HB4.out
        · exact below_zeroed Hb5.out hg4

def Val.Res.isOk {α : Type} : Res α → Bool
  | .ok _ => true
  | .bad _ => false
theorem RV.tell {er : Errs} {r : Res V} {ev : Value} {cs : List Value} {F : Frag} (h : RV er r ev cs F) : (ev = .nilIface ∧ r.isOk = true) ∨ ∃ t v, ev = .iface t v ∧ r.isOk = false := by
  cases r with
  | bad b =>
    obtain ⟨t, v, h2⟩ := Errs.is er b
    exact .inr ⟨t, v, Eq.trans (show ev = er.of b from h) h2, rfl⟩
  | ok z => exact .inl ⟨h.1, rfl⟩

set_option maxRecDepth 100000 in
set_option maxHeartbeats 4000000 in
theorem fits_any (er : Errs) (F : List (Option Nat)) (x : E) (v : V) (xc vc : List Value) (w : World) (hF : ∀ k, some k ∈ F → k < w.heap.size) (hm : esm x) (hb : vmx v + esz x ≤ 90000) (he : ErrsAt er w) (hx : ER (fragE w F) x xc) (hv : VR (fragE w F) v vc) :
    Calls Tryd.prog 12 #[.agg xc.toArray, .agg vc.toArray] w fun e w' => e = .returned (.bool (Val.avalue x v).isOk) ∧ Below w.heap.size w w' := by
  have HC := Lib.hid (fun (wx : World) (hbw : Below w.heap.size w wx) => value_any er F x v xc vc wx (fun k hk => Nat.lt_of_lt_of_le (hF k hk) hbw.size) hm hb (he.keep hbw) (hx.mono (belowE hbw (fun _ h => .inl h))) (hv.mono (belowE hbw (fun _ h => .inl h))))
  have HLx := Lib.hid hx.shape.len; have HLv := Lib.hid hv.len
  clear hx hv hF he hm hb
  generalize Val.avalue x v = R at *
  go_enter Tryd.func12, Tryd.ntmps12
  go_upto_region 2 with ((first
    | (refine wpList_box_lay rfl 32 _ rfl _ rfl ?_; (intro w0 g0 hg0 hB0 hb0))
    | (refine wpList_box_lay rfl 27 _ rfl _ rfl ?_; (intro w1 g1 hg1 hB1 hb1; replace hB0 := hB0.below hb1 hB0.lt; replace hb0 := hb0.trans (hb1.mono hb0.size); have r0 := hB0.whole; have r1 := hB1.whole; clear hB0 hB1 hb1))
    | (refine wpList_load_seg rfl 32 _ rfl _ _ rfl _ _ r0 Tryd.underlying32 rfl ?_ ?_; (· exact infoE.trans (congrArg some HLx.out.symm)))
    | (refine wpList_load_seg rfl 27 _ rfl _ _ rfl _ _ r1 Tryd.underlying27 rfl ?_ ?_; (· exact infoV.trans (congrArg some HLv.out.symm)))
    | (go_at_call 8; (with_reducible refine (HC.out _ hb0).mono ?_); rintro e w3 hR; obtain ⟨cs, ev, rfl, hcl, hc1, hbR, hV⟩ := RetR.form hR; have Hcl := Lib.hid hcl; have Hc1 := Lib.hid hc1; have HV := Lib.hid hV; replace hb0 := hb0.trans (hbR.mono hb0.size); clear hR hcl hc1 hbR hV r0 r1)
    | (refine wpList_alloc_lay rfl 27 rfl zV zeroV ?_; (intro w2 g4 hg4 hB4 hb2; replace hg4 := Nat.le_trans hb0.size hg4; replace hb0 := hb0.trans (hb2.mono hb0.size); clear hb2))
    | (refine wpList_store_all rfl 27 _ _ rfl g4 cs rfl rfl zV hB4 ?_ ?_ ?_ ?_; (· exact infoV.trans (congrArg some Hcl.out.symm)); (· exact Hcl.out); (· exact Hc1.out); (intro w4 hB6 hgr6; replace hb0 := Below.grown hb0 hgr6 hb0.size (fun _ e => by cases e; exact hg4); clear hgr6 hB4 hB6))))
  rcases HV.out.tell with ⟨h1, h2⟩ | ⟨et, ev', h1, h2⟩
  all_goals
    have H2 := Lib.hid h2
    clear h2
    subst h1
    go_wp2_with fail
    go_ret
    exact ⟨ret_bool H2.out.symm, hb0⟩

end Go.Proofs.YtkldcjlkeblggaaDoor
