/- The law ApplyBack, walked: it answers true and leaves the old memory alone. -/
import Derived.Test.YtkldcjlkeblggaaDoorDAlive
import Derived.Test.YtkldcjlkeblggaaDoorDLaid
import Derived.Test.YtkldcjlkeblggaaDoorOpen
import Derived.Test.YtkldcjlkeblggaaDoorInvBook
import Derived.Test.YtkldcjlkeblggaaDoorGroupF
import Derived.Test.YtkldcjlkeblggaaDoorGroupC
namespace Go.Proofs.YtkldcjlkeblggaaDoor
open Go.RowKit
open Val (V E cmp right eright esm v0 Res ado vmx esz gr ge)
set_option linter.unusedVariables false
set_option linter.unusedSimpArgs false

theorem invof_any : ∀ N, OfAt N := of_all (fun N ih => iinto_any N ih) (fun N ih => ibook_any N ih) (fun N ih => isteps_any N ih)
theorem back_bounds {x : E} {a : V} (h1 : ¬ ge x 80 20 < 0) (h2 : ¬ gr a 80 30 < 0) : esm x ∧ vmx a ≤ 80 ∧ esz x ≤ 16000 := by
  have g1 := Val.ge_esz x 80 20 (by decide) (by omega)
  have g2 := Val.gr_vmx a 80 30 (by decide) (by omega)
  exact ⟨g1.2, by omega, by omega⟩
theorem avalue_okB {x : E} {a y : V} (h : Val.avalue x a = .ok y) : eright x = true ∧ right a = true ∧ ado x a = .ok y := by
  unfold Val.avalue at h
  split at h
  · rename_i hr; exact ⟨hr.1, hr.2, h⟩
  · cases h
theorem back_ok {x : E} {a y : V} (h : Val.avalue x a = .ok y) : eright x = true ∧ right y = true ∧ Val.avalue (Val.inv x) y = .ok a ∧ vmx y ≤ vmx a + esz x := by
  obtain ⟨h1, h2, h3⟩ := avalue_okB h
  have hy := Val.ado_right x a y h1 h2 h3
  refine ⟨h1, hy, ?_, Val.ado_vmx x a y h3⟩
  unfold Val.avalue
  rw [if_pos ⟨Val.inv_right x h1, hy⟩]
  exact Val.inv_does x a y h1 h2 h3
theorem wp_alloc_lay {P : Program} {op : Oper} {a : Act} {w : World} {K : Act → World → Prop} {Q : Exit → Act → World → Prop} (ty : TypeId) (ho : op.op = .alloc ty) (zs : List Value) (hz : (P.info? ty).map (·.zero) = some (some (.agg zs.toArray)))
    (h : K (a.put op.dst (.pointer (some ⟨w.heap.size, 0, none⟩))) (w.alloc (.cells zs.toArray ty))) : op.wp P a w K Q := by
  unfold Oper.wp execOp
  cases hq : P.info? ty with
  | none => simp [hq] at hz
  | some i =>
    have hs : i.zero = some (.agg zs.toArray) := by simpa [hq] using hz
    simp only [ho, Instr.alloc, zeroValue, typeInfo, hq, hs, newVar, newRow, Value.cells, Sem.run_bind, Sem.run_pure, run_newObj, Result.andThen_ok]
    simp [hq, hs, newVar, newRow, Value.cells]
    exact h
theorem frag_new {w : World} {E : List (Option Nat)} (o : Obj) : FLe (fragE w E) (fragE (w.alloc o) (some w.heap.size :: E)) :=
  grownE (World.grownBy_alloc w o none) (.inl rfl) (fun k hk => by
    rcases List.mem_cons.1 hk with hk | hk
    · right; cases hk; exact Nat.le_refl _
    · exact .inl hk)

set_option maxRecDepth 100000 in
set_option maxHeartbeats 4000000 in
theorem applyBack_at (er : Errs) (w : World) (he : ErrsAt er w) (x : E) (a : V) (xc ac : List Value) (hx : ER (frag w) x xc) (ha : VR (frag w) a ac) :
    Calls Tryd.prog 4 #[.agg xc.toArray, .agg ac.toArray] w fun e w' => e = .returned (.bool true) ∧ Below w.heap.size w w' := by
  have HAl := Lib.hid (fun (wx : World) (hb : Below w.heap.size w wx) => alive_any er wx (he.keep hb))
  have HG1 := Lib.hid (fun (wx : World) (hb : Below w.heap.size w wx) => Great21_any x xc wx 80 (hx.mono (below_le hb)) (by decide) (by decide))
  have HG2 := Lib.hid (fun (wx : World) (hb : Below w.heap.size w wx) => Great13_any a ac wx 80 (ha.mono (below_le hb)) (by decide) (by decide))
  have HLx := Lib.hid hx.shape.len; have HLa := Lib.hid ha.len
  have HHx := Lib.hid hx; have HHa := Lib.hid ha
  have HE := Lib.hid he
  clear hx ha he
  by_cases h1 : ge x 80 20 < 0
  · rw [decide_eq_true h1] at HG1
    clear h1
    go_enter Tryd.func4, Tryd.ntmps4
    go_wp2_with (first
    | (refine wpList_box_lay rfl 32 _ rfl _ rfl ?_; (intro w3 g3 hg3 hB3 hb3))
    | (refine wpList_box_lay rfl 27 _ rfl ac rfl ?_; (intro w4 g4 hg4 hB4 hb4; replace hB3 := hB3.below hb4 hB3.lt; have hb0 := hb3.trans (hb4.mono hb3.size); clear hb3 hb4 hg3 hg4; have r3 := hB3.whole; have r4 := hB4.whole))
    | (go_at_call 5; (with_reducible refine (HAl.out _ hb0).mono ?_); rintro e w1 ⟨rfl, hbn⟩; replace hB3 := hB3.below hbn hB3.lt; replace hB4 := hB4.below hbn hB4.lt; replace hb0 := hb0.trans (hbn.mono hb0.size); clear r3 r4 hbn; have r3 := hB3.whole; have r4 := hB4.whole)
    | (refine wpList_load_seg rfl 32 _ rfl _ _ rfl _ _ r3 Tryd.underlying32 rfl ?_ ?_; (· exact infoE.trans (congrArg some HLx.out.symm)))
    | (refine wpList_load_seg rfl 27 _ rfl _ _ rfl _ _ r4 Tryd.underlying27 rfl ?_ ?_; (· exact infoV.trans (congrArg some HLa.out.symm)))
    | (go_at_call 6; (with_reducible refine (HG1.out _ hb0).mono ?_); rintro e w2 ⟨rfl, hbn⟩; replace hB3 := hB3.below hbn hB3.lt; replace hB4 := hB4.below hbn hB4.lt; replace hb0 := hb0.trans (hbn.mono hb0.size); clear r3 r4 hbn; have r3 := hB3.whole; have r4 := hB4.whole)
    | (go_at_call 7; (with_reducible refine (HG2.out _ hb0).mono ?_); rintro e w8 ⟨rfl, hbn⟩; replace hB3 := hB3.below hbn hB3.lt; replace hB4 := hB4.below hbn hB4.lt; replace hb0 := hb0.trans (hbn.mono hb0.size); clear r3 r4 hbn; have r3 := hB3.whole; have r4 := hB4.whole))
    go_ret
    exact ⟨rfl, hb0⟩
  rw [decide_eq_false h1] at HG1
  by_cases h2 : gr a 80 30 < 0
  · rw [decide_eq_true h2] at HG2
    clear h1 h2
    go_enter Tryd.func4, Tryd.ntmps4
    go_wp2_with (first
    | (refine wpList_box_lay rfl 32 _ rfl _ rfl ?_; (intro w3 g3 hg3 hB3 hb3))
    | (refine wpList_box_lay rfl 27 _ rfl ac rfl ?_; (intro w4 g4 hg4 hB4 hb4; replace hB3 := hB3.below hb4 hB3.lt; have hb0 := hb3.trans (hb4.mono hb3.size); clear hb3 hb4 hg3 hg4; have r3 := hB3.whole; have r4 := hB4.whole))
    | (go_at_call 5; (with_reducible refine (HAl.out _ hb0).mono ?_); rintro e w1 ⟨rfl, hbn⟩; replace hB3 := hB3.below hbn hB3.lt; replace hB4 := hB4.below hbn hB4.lt; replace hb0 := hb0.trans (hbn.mono hb0.size); clear r3 r4 hbn; have r3 := hB3.whole; have r4 := hB4.whole)
    | (refine wpList_load_seg rfl 32 _ rfl _ _ rfl _ _ r3 Tryd.underlying32 rfl ?_ ?_; (· exact infoE.trans (congrArg some HLx.out.symm)))
    | (refine wpList_load_seg rfl 27 _ rfl _ _ rfl _ _ r4 Tryd.underlying27 rfl ?_ ?_; (· exact infoV.trans (congrArg some HLa.out.symm)))
    | (go_at_call 6; (with_reducible refine (HG1.out _ hb0).mono ?_); rintro e w2 ⟨rfl, hbn⟩; replace hB3 := hB3.below hbn hB3.lt; replace hB4 := hB4.below hbn hB4.lt; replace hb0 := hb0.trans (hbn.mono hb0.size); clear r3 r4 hbn; have r3 := hB3.whole; have r4 := hB4.whole)
    | (go_at_call 7; (with_reducible refine (HG2.out _ hb0).mono ?_); rintro e w8 ⟨rfl, hbn⟩; replace hB3 := hB3.below hbn hB3.lt; replace hB4 := hB4.below hbn hB4.lt; replace hb0 := hb0.trans (hbn.mono hb0.size); clear r3 r4 hbn; have r3 := hB3.whole; have r4 := hB4.whole))
    go_ret
    exact ⟨rfl, hb0⟩
  rw [decide_eq_false h2] at HG2
  have HB := Lib.hid (back_bounds h1 h2)
  clear h1 h2
  have HV := Lib.hid (fun (wx : World) (hb : Below w.heap.size w wx) => value_any er [] x a xc ac wx (fun _ h => by cases h) HB.out.1 (by have := HB.out; omega) (HE.out.keep hb) (HHx.out.mono (below_leE hb (fun _ h => by cases h))) (HHa.out.mono (below_leE hb (fun _ h => by cases h))))
  cases hR1 : Val.avalue x a with
  | bad n =>
    rw [hR1] at HV
    obtain ⟨et, ev, he⟩ := Errs.is er n
    clear hR1
    go_enter Tryd.func4, Tryd.ntmps4
    go_wp2_with (first
    | (refine wpList_box_lay rfl 32 _ rfl _ rfl ?_; (intro w3 g3 hg3 hB3 hb3))
    | (refine wpList_box_lay rfl 27 _ rfl ac rfl ?_; (intro w4 g4 hg4 hB4 hb4; replace hB3 := hB3.below hb4 hB3.lt; have hb0 := hb3.trans (hb4.mono hb3.size); clear hb3 hb4 hg3 hg4; have r3 := hB3.whole; have r4 := hB4.whole))
    | (go_at_call 5; (with_reducible refine (HAl.out _ hb0).mono ?_); rintro e w1 ⟨rfl, hbn⟩; replace hB3 := hB3.below hbn hB3.lt; replace hB4 := hB4.below hbn hB4.lt; replace hb0 := hb0.trans (hbn.mono hb0.size); clear r3 r4 hbn; have r3 := hB3.whole; have r4 := hB4.whole)
    | (refine wpList_load_seg rfl 32 _ rfl _ _ rfl _ _ r3 Tryd.underlying32 rfl ?_ ?_; (· exact infoE.trans (congrArg some HLx.out.symm)))
    | (refine wpList_load_seg rfl 27 _ rfl _ _ rfl _ _ r4 Tryd.underlying27 rfl ?_ ?_; (· exact infoV.trans (congrArg some HLa.out.symm)))
    | (go_at_call 6; (with_reducible refine (HG1.out _ hb0).mono ?_); rintro e w2 ⟨rfl, hbn⟩; replace hB3 := hB3.below hbn hB3.lt; replace hB4 := hB4.below hbn hB4.lt; replace hb0 := hb0.trans (hbn.mono hb0.size); clear r3 r4 hbn; have r3 := hB3.whole; have r4 := hB4.whole)
    | (go_at_call 7; (with_reducible refine (HG2.out _ hb0).mono ?_); rintro e w8 ⟨rfl, hbn⟩; replace hB3 := hB3.below hbn hB3.lt; replace hB4 := hB4.below hbn hB4.lt; replace hb0 := hb0.trans (hbn.mono hb0.size); clear r3 r4 hbn; have r3 := hB3.whole; have r4 := hB4.whole)
    | (go_at_call 8; (with_reducible refine (HV.out _ hb0).mono ?_); rintro e w9 ⟨hbn, rfl⟩; rw [he]; replace hB3 := hB3.below hbn hB3.lt; replace hB4 := hB4.below hbn hB4.lt; replace hb0 := hb0.trans (hbn.mono hb0.size); clear r3 r4 hbn; have r3 := hB3.whole; have r4 := hB4.whole)
    | (refine wpList_alloc_lay rfl 27 rfl zV zeroV ?_; (intro w11 g7 hg7 hB7 hbn; have Hg7 : Hid (w.heap.size ≤ g7) := Nat.le_trans hb0.size hg7; clear hg7; replace hB3 := hB3.below hbn hB3.lt; replace hB4 := hB4.below hbn hB4.lt; replace hb0 := hb0.trans (hbn.mono hb0.size); clear r3 r4 hbn; have r3 := hB3.whole; have r4 := hB4.whole))
    | (refine wpList_store_all rfl 27 _ _ rfl g7 zV rfl rfl zV hB7 ?_ ?_ zV_one ?_; (· exact infoV); (· rfl); (intro w12 hB12 hgr; replace hb0 := Below.grown hb0 hgr hb0.size (fun _ e => by cases e; exact Hg7.out); have q0 := hB12.cell (o := 0) (u := .int .i64 0) rfl; clear hB3 hB4 r3 r4 hgr)))
    go_ret
    exact ⟨rfl, hb0⟩
  | ok y =>
    rw [hR1] at HV
    have HBk := Lib.hid (back_ok hR1)
    have HRy := Lib.hid HBk.out.2.1
    have HOf0 : Hid (∀ (F : List (Option Nat)) (wx : World), Below w.heap.size w wx → (∀ k, some k ∈ F → k < wx.heap.size) → (∀ k, some k ∈ F → w.heap.size ≤ k) → Calls Tryd.prog 10 #[.agg xc.toArray] wx (RetF F wx (Val.inv x))) := fun F wx hb h1 h2 =>
      invof_any (SizeOf.sizeOf x + 1) F x xc wx h1 (Nat.lt_succ_self _) HBk.out.1 (by have := HB.out; omega) (HHx.out.mono (below_leE hb h2))
    have HV20 : Hid (∀ (F : List (Option Nat)) (wx : World) (ic yc : List Value), Below w.heap.size w wx → (∀ k, some k ∈ F → k < wx.heap.size) → ER (fragE wx F) (Val.inv x) ic → VR (fragE wx F) y yc → Calls Tryd.prog 8 #[.agg ic.toArray, .agg yc.toArray] wx (RetR er F wx (.ok a))) := fun F wx ic yc hb h1 h2 h3 => by
      have h := value_any er F (Val.inv x) y ic yc wx h1 (Val.inv_esm x HB.out.1) (by have := HB.out; have := HBk.out.2.2.2; have := Val.inv_esz x; omega) (HE.out.keep hb) h2 h3
      rw [HBk.out.2.2.1] at h
      exact h
    clear hR1
    go_enter Tryd.func4, Tryd.ntmps4
    go_wp2_with (first
    | (refine wpList_box_lay rfl 32 _ rfl _ rfl ?_; (intro w3 g3 hg3 hB3 hb3))
    | (refine wpList_box_lay rfl 27 _ rfl ac rfl ?_; (intro w4 g4 hg4 hB4 hb4; replace hB3 := hB3.below hb4 hB3.lt; have hb0 := hb3.trans (hb4.mono hb3.size); clear hb3 hb4 hg3 hg4; have r3 := hB3.whole; have r4 := hB4.whole))
    | (go_at_call 5; (with_reducible refine (HAl.out _ hb0).mono ?_); rintro e w1 ⟨rfl, hbn⟩; replace hB3 := hB3.below hbn hB3.lt; replace hB4 := hB4.below hbn hB4.lt; replace hb0 := hb0.trans (hbn.mono hb0.size); clear r3 r4 hbn; have r3 := hB3.whole; have r4 := hB4.whole)
    | (refine wpList_load_seg rfl 32 _ rfl _ _ rfl _ _ r3 Tryd.underlying32 rfl ?_ ?_; (· exact infoE.trans (congrArg some HLx.out.symm)))
    | (refine wpList_load_seg rfl 27 _ rfl _ _ rfl _ _ r4 Tryd.underlying27 rfl ?_ ?_; (· exact infoV.trans (congrArg some HLa.out.symm)))
    | (go_at_call 6; (with_reducible refine (HG1.out _ hb0).mono ?_); rintro e w2 ⟨rfl, hbn⟩; replace hB3 := hB3.below hbn hB3.lt; replace hB4 := hB4.below hbn hB4.lt; replace hb0 := hb0.trans (hbn.mono hb0.size); clear r3 r4 hbn; have r3 := hB3.whole; have r4 := hB4.whole)
    | (go_at_call 7; (with_reducible refine (HG2.out _ hb0).mono ?_); rintro e w8 ⟨rfl, hbn⟩; replace hB3 := hB3.below hbn hB3.lt; replace hB4 := hB4.below hbn hB4.lt; replace hb0 := hb0.trans (hbn.mono hb0.size); clear r3 r4 hbn; have r3 := hB3.whole; have r4 := hB4.whole)
    | (go_at_call 8; (with_reducible refine (HV.out _ hb0).mono ?_); rintro e w9 ⟨hbn, yc, rfl, hyc⟩; have HY9 := Lib.hid hyc; have HLy := Lib.hid hyc.len; clear hyc; replace hB3 := hB3.below hbn hB3.lt; replace hB4 := hB4.below hbn hB4.lt; replace hb0 := hb0.trans (hbn.mono hb0.size); clear r3 r4 hbn; have r3 := hB3.whole; have r4 := hB4.whole)
    | (refine wpList_alloc_lay rfl 27 rfl zV zeroV ?_; (intro w11 g7 hg7 hB7 hbn; have Hg7 : Hid (w.heap.size ≤ g7) := Nat.le_trans hb0.size hg7; have Hg73 : Hid (g3 ≠ g7 ∧ g4 ≠ g7) := ⟨fun e => absurd hB3.lt (by omega), fun e => absurd hB4.lt (by omega)⟩; have HY11 := Lib.hid (HY9.out.mono (belowE (E := []) (E' := [some g7]) hbn (fun k hk => by simp only [List.mem_singleton, Option.some.injEq] at hk; right; omega))); clear hg7; replace hB3 := hB3.below hbn hB3.lt; replace hB4 := hB4.below hbn hB4.lt; replace hb0 := hb0.trans (hbn.mono hb0.size); clear r3 r4 hbn; have r3 := hB3.whole; have r4 := hB4.whole))
    | (refine wpList_store_all rfl 27 _ _ rfl g7 yc rfl rfl zV hB7 ?_ ?_ HY9.out.shape.one ?_; (· exact infoV.trans (congrArg some HLy.out.symm)); (· exact HLy.out); (intro w5 hB12 hgr; replace hb0 := Below.grown hb0 hgr hb0.size (fun _ e => by cases e; exact Hg7.out); replace hB3 := hB3.grown hgr (fun e => Hg73.out.1 (Option.some.inj e)); replace hB4 := hB4.grown hgr (fun e => Hg73.out.2 (Option.some.inj e)); have HY5 : Hid (VR (frag w5) y yc) := (HY11.out.mono (grownE (E' := [some g7]) hgr (.inr (by simp)) (fun _ h => .inl h))).mono (fragE_le _ _); clear r3 r4 hgr)))
    have HOf : Hid (∀ (F : List (Option Nat)) (wx : World), Below w5.heap.size w5 wx → (∀ k, some k ∈ F → k < wx.heap.size) → (∀ k, some k ∈ F → w5.heap.size ≤ k) → Calls Tryd.prog 10 #[.agg xc.toArray] wx (RetF F wx (Val.inv x))) := fun F wx hb h1 h2 =>
      HOf0.out F wx (hb0.trans (hb.mono hb0.size)) h1 (fun k hk => Nat.le_trans hb0.size (h2 k hk))
    have HV2 : Hid (∀ (F : List (Option Nat)) (wx : World) (ic : List Value), Below w5.heap.size w5 wx → (∀ k, some k ∈ F → k < wx.heap.size) → (∀ k, some k ∈ F → w5.heap.size ≤ k) → ER (fragE wx F) (Val.inv x) ic → Calls Tryd.prog 8 #[.agg ic.toArray, .agg yc.toArray] wx (RetR er F wx (.ok a))) := fun F wx ic hb h1 h2 h3 =>
      HV20.out F wx ic yc (hb0.trans (hb.mono hb0.size)) h1 h3 (HY5.out.mono (below_leE hb h2))
    clear hB7
    have hB7 := hB12
    clear hB12
    clear HOf0 HV20 HV HAl HG1 HG2 HY9 HY11
    have hP : Blk w5.drew g3 xc ∧ Blk w5.drew g7 yc ∧ Below w5.heap.size w5 w5.drew := ⟨hB3.drew, hB7.drew, (Below.refl _ _).drew⟩
    refine wp_region_G 8 (fun _ => True) (fun w' => Blk w' g3 xc ∧ Blk w' g7 yc ∧ Below w5.heap.size w5 w') (by kernel_rfl) trivial hP (fun _ => ?_)
    refine wpAnyG_take (i := 0) (v := .agg xc.toArray) rfl (by kernel_rfl) (fun _ _ _ h => h) (yieldsIf_load_mid (by rfl) 32 _ rfl g3 0 (by go_simp) xc _ (fun w h => h.2.1.whole) Tryd.underlying32 rfl (infoE.trans (congrArg some HLx.out.symm))) (InvG.mk trivial hP) ?_
    change wpAnyG _ _ _ _ _ _ _ _ #[_, _, _, _, _, _, _, _, _, _] ⟨#[_, _, _, _, _, _, _, _, _, _, _, _, _, _, _, _, _, _, _, _, _, _, _, _, _, _, _, _, _, _, _, _, _, _, _, _, _, _, _, _, _, _, _, _, _], _⟩ _
    refine wpAnyG_take (i := 2) (v := .agg yc.toArray) rfl (by kernel_rfl) (fun _ _ _ h => h) (yieldsIf_load_mid (by rfl) 27 _ rfl g7 0 (by go_simp) yc _ (fun w h => h.2.2.1.whole) Tryd.underlying27 rfl (infoV.trans (congrArg some HLy.out.symm))) (InvG.mk trivial hP) ?_
    change wpAnyG _ _ _ _ _ _ _ _ #[_, _, _, _, _, _, _, _, _, _] ⟨#[_, _, _, _, _, _, _, _, _, _, _, _, _, _, _, _, _, _, _, _, _, _, _, _, _, _, _, _, _, _, _, _, _, _, _, _, _, _, _, _, _, _, _, _, _], _⟩ _
    refine wpAnyG_ready (rs := [1, 7]) (by kernel_rfl) (by simp) ?_
    refine AllReadyG.plain rfl rfl (fun K hK => ?_) (AllReadyG.plain rfl rfl (fun K hK => ?_) AllReadyG.nil)
    · go_simp
      refine (HOf.out [] w5.drew hP.2.2 (by exact fun k hk => by cases hk) (by exact fun k hk => by cases hk)).mono ?_
      rintro e w6 ⟨ic, rfl, hic, hbn⟩
      have hb6 : Below w5.heap.size w5 w6 := (hP.2.2).trans (hbn.mono (hP.2.2).size)
      have HIc := Lib.hid hic; have HLi := Lib.hid hic.shape.len
      refine hK.out _ _ (InvG.mk trivial ⟨hB3.below hb6 hB3.lt, hB7.below hb6 hB7.lt, hb6⟩) (fun _ => ?_)
      clear hK hic
      change wpAnyG _ _ _ _ _ _ _ _ #[_, _, _, _, _, _, _, _, _, _] ⟨#[_, _, _, _, _, _, _, _, _, _, _, _, _, _, _, _, _, _, _, _, _, _, _, _, _, _, _, _, _, _, _, _, _, _, _, _, _, _, _, _, _, _, _, _, _], _⟩ _
      refine wpAnyG_ready (rs := [3, 7]) (by kernel_rfl) (by simp) ?_
      refine AllReadyG.plain rfl rfl (fun K hK => ?_) (AllReadyG.plain rfl rfl (fun K hK => ?_) AllReadyG.nil)
      · go_simp
        refine (HV2.out [] w6 ic hb6 (by exact fun k hk => by cases hk) (by exact fun k hk => by cases hk) HIc.out).mono ?_
        rintro e w7 ⟨hbn, zc, rfl, hzc⟩
        have hb7 : Below w5.heap.size w5 w7 := (hb6).trans (hbn.mono (hb6).size)
        have HZc := Lib.hid hzc; have HLz := Lib.hid hzc.len
        have hPv : Blk w7 g3 xc ∧ Blk w7 g7 yc ∧ Below w5.heap.size w5 w7 := ⟨hB3.below hb7 hB3.lt, hB7.below hb7 hB7.lt, hb7⟩
        refine hK.out _ _ (InvG.mk trivial hPv) (fun _ => ?_)
        clear hK hzc
        change wpAnyG _ _ _ _ _ _ _ _ #[_, _, _, _, _, _, _, _, _, _] ⟨#[_, _, _, _, _, _, _, _, _, _, _, _, _, _, _, _, _, _, _, _, _, _, _, _, _, _, _, _, _, _, _, _, _, _, _, _, _, _, _, _, _, _, _, _, _], _⟩ _
        refine wpAnyG_take (i := 4) (v := .tuple #[.agg zc.toArray, .nilIface]) rfl (by kernel_rfl) (fun _ _ _ h => h) (.inl ⟨by rfl, fun w hw => by go_simp⟩) (InvG.mk trivial hPv) ?_
        change wpAnyG _ _ _ _ _ _ _ _ #[_, _, _, _, _, _, _, _, _, _] ⟨#[_, _, _, _, _, _, _, _, _, _, _, _, _, _, _, _, _, _, _, _, _, _, _, _, _, _, _, _, _, _, _, _, _, _, _, _, _, _, _, _, _, _, _, _, _], _⟩ _
        refine wpAnyG_take (i := 5) (v := .agg zc.toArray) rfl (by kernel_rfl) (fun _ _ _ h => h) (.inl ⟨by rfl, fun w hw => by go_simp⟩) (InvG.mk trivial hPv) ?_
        change wpAnyG _ _ _ _ _ _ _ _ #[_, _, _, _, _, _, _, _, _, _] ⟨#[_, _, _, _, _, _, _, _, _, _, _, _, _, _, _, _, _, _, _, _, _, _, _, _, _, _, _, _, _, _, _, _, _, _, _, _, _, _, _, _, _, _, _, _, _], _⟩ _
        refine wpAnyG_take0 (i := 6) (v := .nilIface) rfl (by kernel_rfl) (fun _ _ _ h => h) (.inl ⟨by rfl, fun w hw => by go_simp⟩) (InvG.mk trivial hPv) ?_
        change wpAnyG _ _ _ _ _ _ _ _ #[_, _, _, _, _, _, _, _, _, _] ⟨#[_, _, _, _, _, _, _, _, _, _, _, _, _, _, _, _, _, _, _, _, _, _, _, _, _, _, _, _, _, _, _, _, _, _, _, _, _, _, _, _, _, _, _, _, _], _⟩ _
        refine wpAnyG_ready (rs := [7]) (by kernel_rfl) (by simp) ?_
        refine AllReadyG.plain rfl rfl (fun K hK => ?_) AllReadyG.nil
        refine wp_alloc_lay 27 rfl zV zeroV ?_
        have hb8 : Below w5.heap.size w5 (w7.alloc (.cells zV.toArray 27)) := (hb7).alloc (hb7).size _
        refine hK.out _ _ (InvG.mk trivial ⟨hB3.below hb8 hB3.lt, hB7.below hb8 hB7.lt, hb8⟩) (fun _ => ?_)
        clear hK
        change wpAnyG _ _ _ _ _ _ _ _ #[_, _, _, _, _, _, _, _, _, _] ⟨#[_, _, _, _, _, _, _, _, _, _, _, _, _, _, _, _, _, _, _, _, _, _, _, _, _, _, _, _, _, _, _, _, _, _, _, _, _, _, _, _, _, _, _, _, _], _⟩ _
        have hB8 : Blk (w7.alloc (.cells zV.toArray 27)) w7.heap.size zV := Blk.new w7 _ zV
        refine wpAnyG_ready (rs := [8]) (by kernel_rfl) (by simp) ?_
        refine AllReadyG.plain rfl rfl (fun K hK => ?_) AllReadyG.nil
        refine wp_store_lay 27 _ _ rfl w7.heap.size 0 (.agg zc.toArray) zc zV (by go_simp) (by go_simp) rfl hB8 (infoV.trans (congrArg some HLz.out.symm)) (by rw [HLz.out]; decide) HZc.out.shape.one ?_
        intro w12 hB12 hg12 hs12
        have hB12 : Blk w12 w7.heap.size zc := by
          have e : patch zV 0 zc = zc := by unfold patch; simp; rw [HLz.out]; decide
          rw [e] at hB12; exact hB12
        have hb12 : Below w5.heap.size w5 w12 := Below.grown (hb8) hg12 (hb8).size (fun _ e => by cases e; exact hb7.size)
        have HZ12 : Hid (VR (frag w12) a zc) := ((HZc.out.mono (frag_new _)).mono (grownE hg12 (.inr (by simp)) (fun _ h => .inl h))).mono (fragE_le _ _)
        refine hK.out _ _ (InvG.past trivial (by kernel_rfl)) (fun _ => ?_)
        clear hK
        change wpAnyG _ _ _ _ _ _ _ _ #[_, _, _, _, _, _, _, _, _, _] ⟨#[_, _, _, _, _, _, _, _, _, _, _, _, _, _, _, _, _, _, _, _, _, _, _, _, _, _, _, _, _, _, _, _, _, _, _, _, _, _, _, _, _, _, _, _, _], _⟩ _
        refine wpAnyG_take0 (i := 9) (v := .nilIface) rfl (by kernel_rfl) (fun _ _ _ h => h) (.inl ⟨by rfl, fun w hw => by go_simp⟩) (InvG.past trivial (by kernel_rfl)) ?_
        change wpAnyG _ _ _ _ _ _ _ _ #[_, _, _, _, _, _, _, _, _, _] ⟨#[_, _, _, _, _, _, _, _, _, _, _, _, _, _, _, _, _, _, _, _, _, _, _, _, _, _, _, _, _, _, _, _, _, _, _, _, _, _, _, _, _, _, _, _, _], _⟩ _
        refine wpAnyG_done (by kernel_rfl) ?_ _
        have hb0 := hb0.trans (hb12.mono hb0.size)
        replace hB4 := hB4.below hb12 hB4.lt
        replace hB7 := hB7.below hb12 hB7.lt
        have r4 := hB4.whole; have r7 := hB7.whole; have r9 := hB12.whole
        have HY12 : Hid (VR (frag w12) y yc) := HY5.out.mono (below_le hb12)
        have HA12 : Hid (VR (frag w12) a ac) := HHa.out.mono (below_le hb0)
        have HRt := Lib.hid (fun (wx : World) (hb : Below w12.heap.size w12 wx) => right_any y yc wx (HY12.out.mono (below_le hb)))
        have HSm := Lib.hid (fun (wx : World) (hb : Below w12.heap.size w12 wx) => same_any a a zc ac wx (HZ12.out.mono (below_le hb)) (HA12.out.mono (below_le hb)))
        rw [HRy.out] at HRt
        rw [decide_eq_true (Val.cmp_refl a)] at HSm
        have Hw12 := Lib.hid hb0
        obtain ⟨hbc, Hlt⟩ : Below w12.heap.size w12 w12 ∧ Hid (g4 < w12.heap.size ∧ w7.heap.size < w12.heap.size) := ⟨Below.refl _ _, ⟨hB4.lt, hB12.lt⟩⟩
        clear hB12 hg12 hs12 hb12 hB4 hB3 hB7 hb0 hP hPv HOf HV2
        go_wp2_with (first
          | (refine wpList_load_seg rfl 27 _ rfl _ _ rfl _ _ r4 Tryd.underlying27 rfl ?_ ?_; (· exact infoV.trans (congrArg some HLa.out.symm)))
          | (refine wpList_load_seg rfl 27 _ rfl _ _ rfl _ _ r7 Tryd.underlying27 rfl ?_ ?_; (· exact infoV.trans (congrArg some HLy.out.symm)))
          | (refine wpList_load_seg rfl 27 _ rfl _ _ rfl _ _ r9 Tryd.underlying27 rfl ?_ ?_; (· exact infoV.trans (congrArg some HLz.out.symm)))
          | (go_at_call 11; (with_reducible refine (HRt.out _ hbc).mono ?_); rintro e w13 ⟨rfl, hbn⟩; replace r4 := range_below r4 hbn Hlt.out.1; replace r9 := range_below r9 hbn Hlt.out.2; clear r7; replace hbc := hbc.trans (hbn.mono hbc.size); clear hbn)
          | (go_at_call 9; (with_reducible refine (HSm.out _ hbc).mono ?_); rintro e w14 ⟨rfl, hbn⟩; clear r4 r9; replace hbc := hbc.trans (hbn.mono hbc.size); clear hbn))
        go_ret
        exact ⟨rfl, Hw12.out.trans (hbc.mono Hw12.out.size)⟩
      · refine wp_alloc_lay 27 rfl zV zeroV ?_
        have hb7 : Below w5.heap.size w5 (w6.alloc (.cells zV.toArray 27)) := (hb6).alloc (hb6).size _
        refine hK.out _ _ (InvG.mk trivial ⟨hB3.below hb7 hB3.lt, hB7.below hb7 hB7.lt, hb7⟩) (fun _ => ?_)
        clear hK
        change wpAnyG _ _ _ _ _ _ _ _ #[_, _, _, _, _, _, _, _, _, _] ⟨#[_, _, _, _, _, _, _, _, _, _, _, _, _, _, _, _, _, _, _, _, _, _, _, _, _, _, _, _, _, _, _, _, _, _, _, _, _, _, _, _, _, _, _, _, _], _⟩ _
        have hB7n : Blk (w6.alloc (.cells zV.toArray 27)) w6.heap.size zV := Blk.new w6 _ zV
        have hEl2 : ∀ k, some k ∈ [some w6.heap.size] → k < (w6.alloc (.cells zV.toArray 27)).heap.size := fun k hk => by simp only [List.mem_singleton, Option.some.injEq] at hk; rw [World.size_alloc]; omega
        have hEn : ∀ k, some k ∈ [some w6.heap.size] → w5.heap.size ≤ k := fun k hk => by simp only [List.mem_singleton, Option.some.injEq] at hk; rw [hk]; exact hb6.size
        refine wpAnyG_ready (rs := [3]) (by kernel_rfl) (by simp) ?_
        refine AllReadyG.plain rfl rfl (fun K hK => ?_) AllReadyG.nil
        go_simp
        refine (HV2.out [some w6.heap.size] (w6.alloc (.cells zV.toArray 27)) ic hb7 (by exact hEl2) (by exact hEn) (ER.mono (frag_new _) HIc.out)).mono ?_
        rintro e w8 ⟨hbn, zc, rfl, hzc⟩
        have hb8 : Below w5.heap.size w5 w8 := (hb7).trans (hbn.mono (hb7).size)
        have HZc := Lib.hid hzc; have HLz := Lib.hid hzc.len
        have hPv : Blk w8 g3 xc ∧ Blk w8 g7 yc ∧ Below w5.heap.size w5 w8 := ⟨hB3.below hb8 hB3.lt, hB7.below hb8 hB7.lt, hb8⟩
        refine hK.out _ _ (InvG.mk trivial hPv) (fun _ => ?_)
        clear hK hzc
        change wpAnyG _ _ _ _ _ _ _ _ #[_, _, _, _, _, _, _, _, _, _] ⟨#[_, _, _, _, _, _, _, _, _, _, _, _, _, _, _, _, _, _, _, _, _, _, _, _, _, _, _, _, _, _, _, _, _, _, _, _, _, _, _, _, _, _, _, _, _], _⟩ _
        refine wpAnyG_take (i := 4) (v := .tuple #[.agg zc.toArray, .nilIface]) rfl (by kernel_rfl) (fun _ _ _ h => h) (.inl ⟨by rfl, fun w hw => by go_simp⟩) (InvG.mk trivial hPv) ?_
        change wpAnyG _ _ _ _ _ _ _ _ #[_, _, _, _, _, _, _, _, _, _] ⟨#[_, _, _, _, _, _, _, _, _, _, _, _, _, _, _, _, _, _, _, _, _, _, _, _, _, _, _, _, _, _, _, _, _, _, _, _, _, _, _, _, _, _, _, _, _], _⟩ _
        refine wpAnyG_take (i := 5) (v := .agg zc.toArray) rfl (by kernel_rfl) (fun _ _ _ h => h) (.inl ⟨by rfl, fun w hw => by go_simp⟩) (InvG.mk trivial hPv) ?_
        change wpAnyG _ _ _ _ _ _ _ _ #[_, _, _, _, _, _, _, _, _, _] ⟨#[_, _, _, _, _, _, _, _, _, _, _, _, _, _, _, _, _, _, _, _, _, _, _, _, _, _, _, _, _, _, _, _, _, _, _, _, _, _, _, _, _, _, _, _, _], _⟩ _
        refine wpAnyG_take0 (i := 6) (v := .nilIface) rfl (by kernel_rfl) (fun _ _ _ h => h) (.inl ⟨by rfl, fun w hw => by go_simp⟩) (InvG.mk trivial hPv) ?_
        change wpAnyG _ _ _ _ _ _ _ _ #[_, _, _, _, _, _, _, _, _, _] ⟨#[_, _, _, _, _, _, _, _, _, _, _, _, _, _, _, _, _, _, _, _, _, _, _, _, _, _, _, _, _, _, _, _, _, _, _, _, _, _, _, _, _, _, _, _, _], _⟩ _
        have hB8 : Blk w8 w6.heap.size zV := hB7n.below hbn hB7n.lt
        refine wpAnyG_ready (rs := [8]) (by kernel_rfl) (by simp) ?_
        refine AllReadyG.plain rfl rfl (fun K hK => ?_) AllReadyG.nil
        refine wp_store_lay 27 _ _ rfl w6.heap.size 0 (.agg zc.toArray) zc zV (by go_simp) (by go_simp) rfl hB8 (infoV.trans (congrArg some HLz.out.symm)) (by rw [HLz.out]; decide) HZc.out.shape.one ?_
        intro w12 hB12 hg12 hs12
        have hB12 : Blk w12 w6.heap.size zc := by
          have e : patch zV 0 zc = zc := by unfold patch; simp; rw [HLz.out]; decide
          rw [e] at hB12; exact hB12
        have hb12 : Below w5.heap.size w5 w12 := Below.grown (hb8) hg12 (hb8).size (fun _ e => by cases e; exact hb6.size)
        have HZ12 : Hid (VR (frag w12) a zc) := ((HZc.out).mono (grownE hg12 (.inr (by simp)) (fun _ h => .inl h))).mono (fragE_le _ _)
        refine hK.out _ _ (InvG.past trivial (by kernel_rfl)) (fun _ => ?_)
        clear hK
        change wpAnyG _ _ _ _ _ _ _ _ #[_, _, _, _, _, _, _, _, _, _] ⟨#[_, _, _, _, _, _, _, _, _, _, _, _, _, _, _, _, _, _, _, _, _, _, _, _, _, _, _, _, _, _, _, _, _, _, _, _, _, _, _, _, _, _, _, _, _], _⟩ _
        refine wpAnyG_take0 (i := 9) (v := .nilIface) rfl (by kernel_rfl) (fun _ _ _ h => h) (.inl ⟨by rfl, fun w hw => by go_simp⟩) (InvG.past trivial (by kernel_rfl)) ?_
        change wpAnyG _ _ _ _ _ _ _ _ #[_, _, _, _, _, _, _, _, _, _] ⟨#[_, _, _, _, _, _, _, _, _, _, _, _, _, _, _, _, _, _, _, _, _, _, _, _, _, _, _, _, _, _, _, _, _, _, _, _, _, _, _, _, _, _, _, _, _], _⟩ _
        refine wpAnyG_done (by kernel_rfl) ?_ _
        have hb0 := hb0.trans (hb12.mono hb0.size)
        replace hB4 := hB4.below hb12 hB4.lt
        replace hB7 := hB7.below hb12 hB7.lt
        have r4 := hB4.whole; have r7 := hB7.whole; have r9 := hB12.whole
        have HY12 : Hid (VR (frag w12) y yc) := HY5.out.mono (below_le hb12)
        have HA12 : Hid (VR (frag w12) a ac) := HHa.out.mono (below_le hb0)
        have HRt := Lib.hid (fun (wx : World) (hb : Below w12.heap.size w12 wx) => right_any y yc wx (HY12.out.mono (below_le hb)))
        have HSm := Lib.hid (fun (wx : World) (hb : Below w12.heap.size w12 wx) => same_any a a zc ac wx (HZ12.out.mono (below_le hb)) (HA12.out.mono (below_le hb)))
        rw [HRy.out] at HRt
        rw [decide_eq_true (Val.cmp_refl a)] at HSm
        have Hw12 := Lib.hid hb0
        obtain ⟨hbc, Hlt⟩ : Below w12.heap.size w12 w12 ∧ Hid (g4 < w12.heap.size ∧ w6.heap.size < w12.heap.size) := ⟨Below.refl _ _, ⟨hB4.lt, hB12.lt⟩⟩
        clear hB12 hg12 hs12 hb12 hB4 hB3 hB7 hb0 hP hPv HOf HV2
        go_wp2_with (first
          | (refine wpList_load_seg rfl 27 _ rfl _ _ rfl _ _ r4 Tryd.underlying27 rfl ?_ ?_; (· exact infoV.trans (congrArg some HLa.out.symm)))
          | (refine wpList_load_seg rfl 27 _ rfl _ _ rfl _ _ r7 Tryd.underlying27 rfl ?_ ?_; (· exact infoV.trans (congrArg some HLy.out.symm)))
          | (refine wpList_load_seg rfl 27 _ rfl _ _ rfl _ _ r9 Tryd.underlying27 rfl ?_ ?_; (· exact infoV.trans (congrArg some HLz.out.symm)))
          | (go_at_call 11; (with_reducible refine (HRt.out _ hbc).mono ?_); rintro e w13 ⟨rfl, hbn⟩; replace r4 := range_below r4 hbn Hlt.out.1; replace r9 := range_below r9 hbn Hlt.out.2; clear r7; replace hbc := hbc.trans (hbn.mono hbc.size); clear hbn)
          | (go_at_call 9; (with_reducible refine (HSm.out _ hbc).mono ?_); rintro e w14 ⟨rfl, hbn⟩; clear r4 r9; replace hbc := hbc.trans (hbn.mono hbc.size); clear hbn))
        go_ret
        exact ⟨rfl, Hw12.out.trans (hbc.mono Hw12.out.size)⟩
    · refine wp_alloc_lay 27 rfl zV zeroV ?_
      have hb6 : Below w5.heap.size w5 (w5.drew.alloc (.cells zV.toArray 27)) := (hP.2.2).alloc (hP.2.2).size _
      refine hK.out _ _ (InvG.mk trivial ⟨hB3.below hb6 hB3.lt, hB7.below hb6 hB7.lt, hb6⟩) (fun _ => ?_)
      clear hK
      change wpAnyG _ _ _ _ _ _ _ _ #[_, _, _, _, _, _, _, _, _, _] ⟨#[_, _, _, _, _, _, _, _, _, _, _, _, _, _, _, _, _, _, _, _, _, _, _, _, _, _, _, _, _, _, _, _, _, _, _, _, _, _, _, _, _, _, _, _, _], _⟩ _
      have hB6n : Blk (w5.drew.alloc (.cells zV.toArray 27)) w5.heap.size zV := Blk.new w5.drew _ zV
      have hEl : ∀ k, some k ∈ [some w5.heap.size] → k < (w5.drew.alloc (.cells zV.toArray 27)).heap.size := fun k hk => by simp only [List.mem_singleton, Option.some.injEq] at hk; rw [World.size_alloc]; show k < w5.heap.size + 1; omega
      have hEn : ∀ k, some k ∈ [some w5.heap.size] → w5.heap.size ≤ k := fun k hk => by simp only [List.mem_singleton, Option.some.injEq] at hk; omega
      refine wpAnyG_ready (rs := [1]) (by kernel_rfl) (by simp) ?_
      refine AllReadyG.plain rfl rfl (fun K hK => ?_) AllReadyG.nil
      go_simp
      refine (HOf.out [some w5.heap.size] (w5.drew.alloc (.cells zV.toArray 27)) hb6 (by exact hEl) (by exact hEn)).mono ?_
      rintro e w7 ⟨ic, rfl, hic, hbn⟩
      have hb7 : Below w5.heap.size w5 w7 := (hb6).trans (hbn.mono (hb6).size)
      have HIc := Lib.hid hic; have HLi := Lib.hid hic.shape.len
      refine hK.out _ _ (InvG.mk trivial ⟨hB3.below hb7 hB3.lt, hB7.below hb7 hB7.lt, hb7⟩) (fun _ => ?_)
      clear hK hic
      change wpAnyG _ _ _ _ _ _ _ _ #[_, _, _, _, _, _, _, _, _, _] ⟨#[_, _, _, _, _, _, _, _, _, _, _, _, _, _, _, _, _, _, _, _, _, _, _, _, _, _, _, _, _, _, _, _, _, _, _, _, _, _, _, _, _, _, _, _, _], _⟩ _
      have hEl2 : ∀ k, some k ∈ [some w5.heap.size] → k < w7.heap.size := fun k hk => Nat.lt_of_lt_of_le (hEl k hk) hbn.size
      have hB7n : Blk w7 w5.heap.size zV := hB6n.below hbn hB6n.lt
      clear hbn
      refine wpAnyG_ready (rs := [3]) (by kernel_rfl) (by simp) ?_
      refine AllReadyG.plain rfl rfl (fun K hK => ?_) AllReadyG.nil
      go_simp
      refine (HV2.out [some w5.heap.size] w7 ic hb7 (by exact hEl2) (by exact hEn) HIc.out).mono ?_
      rintro e w8 ⟨hbn, zc, rfl, hzc⟩
      have hb8 : Below w5.heap.size w5 w8 := (hb7).trans (hbn.mono (hb7).size)
      have HZc := Lib.hid hzc; have HLz := Lib.hid hzc.len
      have hPv : Blk w8 g3 xc ∧ Blk w8 g7 yc ∧ Below w5.heap.size w5 w8 := ⟨hB3.below hb8 hB3.lt, hB7.below hb8 hB7.lt, hb8⟩
      refine hK.out _ _ (InvG.mk trivial hPv) (fun _ => ?_)
      clear hK hzc
      change wpAnyG _ _ _ _ _ _ _ _ #[_, _, _, _, _, _, _, _, _, _] ⟨#[_, _, _, _, _, _, _, _, _, _, _, _, _, _, _, _, _, _, _, _, _, _, _, _, _, _, _, _, _, _, _, _, _, _, _, _, _, _, _, _, _, _, _, _, _], _⟩ _
      refine wpAnyG_take (i := 4) (v := .tuple #[.agg zc.toArray, .nilIface]) rfl (by kernel_rfl) (fun _ _ _ h => h) (.inl ⟨by rfl, fun w hw => by go_simp⟩) (InvG.mk trivial hPv) ?_
      change wpAnyG _ _ _ _ _ _ _ _ #[_, _, _, _, _, _, _, _, _, _] ⟨#[_, _, _, _, _, _, _, _, _, _, _, _, _, _, _, _, _, _, _, _, _, _, _, _, _, _, _, _, _, _, _, _, _, _, _, _, _, _, _, _, _, _, _, _, _], _⟩ _
      refine wpAnyG_take (i := 5) (v := .agg zc.toArray) rfl (by kernel_rfl) (fun _ _ _ h => h) (.inl ⟨by rfl, fun w hw => by go_simp⟩) (InvG.mk trivial hPv) ?_
      change wpAnyG _ _ _ _ _ _ _ _ #[_, _, _, _, _, _, _, _, _, _] ⟨#[_, _, _, _, _, _, _, _, _, _, _, _, _, _, _, _, _, _, _, _, _, _, _, _, _, _, _, _, _, _, _, _, _, _, _, _, _, _, _, _, _, _, _, _, _], _⟩ _
      refine wpAnyG_take0 (i := 6) (v := .nilIface) rfl (by kernel_rfl) (fun _ _ _ h => h) (.inl ⟨by rfl, fun w hw => by go_simp⟩) (InvG.mk trivial hPv) ?_
      change wpAnyG _ _ _ _ _ _ _ _ #[_, _, _, _, _, _, _, _, _, _] ⟨#[_, _, _, _, _, _, _, _, _, _, _, _, _, _, _, _, _, _, _, _, _, _, _, _, _, _, _, _, _, _, _, _, _, _, _, _, _, _, _, _, _, _, _, _, _], _⟩ _
      have hB8 : Blk w8 w5.heap.size zV := hB7n.below hbn hB7n.lt
      refine wpAnyG_ready (rs := [8]) (by kernel_rfl) (by simp) ?_
      refine AllReadyG.plain rfl rfl (fun K hK => ?_) AllReadyG.nil
      refine wp_store_lay 27 _ _ rfl w5.heap.size 0 (.agg zc.toArray) zc zV (by go_simp) (by go_simp) rfl hB8 (infoV.trans (congrArg some HLz.out.symm)) (by rw [HLz.out]; decide) HZc.out.shape.one ?_
      intro w12 hB12 hg12 hs12
      have hB12 : Blk w12 w5.heap.size zc := by
        have e : patch zV 0 zc = zc := by unfold patch; simp; rw [HLz.out]; decide
        rw [e] at hB12; exact hB12
      have hb12 : Below w5.heap.size w5 w12 := Below.grown (hb8) hg12 (hb8).size (fun _ e => by cases e; exact (Nat.le_refl _))
      have HZ12 : Hid (VR (frag w12) a zc) := ((HZc.out).mono (grownE hg12 (.inr (by simp)) (fun _ h => .inl h))).mono (fragE_le _ _)
      refine hK.out _ _ (InvG.past trivial (by kernel_rfl)) (fun _ => ?_)
      clear hK
      change wpAnyG _ _ _ _ _ _ _ _ #[_, _, _, _, _, _, _, _, _, _] ⟨#[_, _, _, _, _, _, _, _, _, _, _, _, _, _, _, _, _, _, _, _, _, _, _, _, _, _, _, _, _, _, _, _, _, _, _, _, _, _, _, _, _, _, _, _, _], _⟩ _
      refine wpAnyG_take0 (i := 9) (v := .nilIface) rfl (by kernel_rfl) (fun _ _ _ h => h) (.inl ⟨by rfl, fun w hw => by go_simp⟩) (InvG.past trivial (by kernel_rfl)) ?_
      change wpAnyG _ _ _ _ _ _ _ _ #[_, _, _, _, _, _, _, _, _, _] ⟨#[_, _, _, _, _, _, _, _, _, _, _, _, _, _, _, _, _, _, _, _, _, _, _, _, _, _, _, _, _, _, _, _, _, _, _, _, _, _, _, _, _, _, _, _, _], _⟩ _
      refine wpAnyG_done (by kernel_rfl) ?_ _
      have hb0 := hb0.trans (hb12.mono hb0.size)
      replace hB4 := hB4.below hb12 hB4.lt
      replace hB7 := hB7.below hb12 hB7.lt
      have r4 := hB4.whole; have r7 := hB7.whole; have r9 := hB12.whole
      have HY12 : Hid (VR (frag w12) y yc) := HY5.out.mono (below_le hb12)
      have HA12 : Hid (VR (frag w12) a ac) := HHa.out.mono (below_le hb0)
      have HRt := Lib.hid (fun (wx : World) (hb : Below w12.heap.size w12 wx) => right_any y yc wx (HY12.out.mono (below_le hb)))
      have HSm := Lib.hid (fun (wx : World) (hb : Below w12.heap.size w12 wx) => same_any a a zc ac wx (HZ12.out.mono (below_le hb)) (HA12.out.mono (below_le hb)))
      rw [HRy.out] at HRt
      rw [decide_eq_true (Val.cmp_refl a)] at HSm
      have Hw12 := Lib.hid hb0
      obtain ⟨hbc, Hlt⟩ : Below w12.heap.size w12 w12 ∧ Hid (g4 < w12.heap.size ∧ w5.heap.size < w12.heap.size) := ⟨Below.refl _ _, ⟨hB4.lt, hB12.lt⟩⟩
      clear hB12 hg12 hs12 hb12 hB4 hB3 hB7 hb0 hP hPv HOf HV2
      go_wp2_with (first
        | (refine wpList_load_seg rfl 27 _ rfl _ _ rfl _ _ r4 Tryd.underlying27 rfl ?_ ?_; (· exact infoV.trans (congrArg some HLa.out.symm)))
        | (refine wpList_load_seg rfl 27 _ rfl _ _ rfl _ _ r7 Tryd.underlying27 rfl ?_ ?_; (· exact infoV.trans (congrArg some HLy.out.symm)))
        | (refine wpList_load_seg rfl 27 _ rfl _ _ rfl _ _ r9 Tryd.underlying27 rfl ?_ ?_; (· exact infoV.trans (congrArg some HLz.out.symm)))
        | (go_at_call 11; (with_reducible refine (HRt.out _ hbc).mono ?_); rintro e w13 ⟨rfl, hbn⟩; replace r4 := range_below r4 hbn Hlt.out.1; replace r9 := range_below r9 hbn Hlt.out.2; clear r7; replace hbc := hbc.trans (hbn.mono hbc.size); clear hbn)
        | (go_at_call 9; (with_reducible refine (HSm.out _ hbc).mono ?_); rintro e w14 ⟨rfl, hbn⟩; clear r4 r9; replace hbc := hbc.trans (hbn.mono hbc.size); clear hbn))
      go_ret
      exact ⟨rfl, Hw12.out.trans (hbc.mono Hw12.out.size)⟩

section
variable {H : Type} {enc : TypeId × Value → H} {base : Nat} {spare : Nat → Bool} {held : Bool}
set_option maxRecDepth 100000 in
theorem applyBack_walk {r : Reach} {b0 b1 : Nat} {v0 v1 : Value} {d0 d1 : DataW H} {p0 p1 : List MemPlace} (W : World) (hL : Laid W)
    (o0 : Value.okWide Tryd.prog W r b0 32 v0) (h0 : DataW.Trod enc Tryd.prog W base spare held 32 v0 d0 p0)
    (o1 : Value.okWide Tryd.prog W r b1 27 v1) (h1 : DataW.Trod enc Tryd.prog W base spare held 27 v1 d1 p1) :
    Calls Tryd.prog 4 #[v0, v1] W fun e w' => e = .returned (.bool true) ∧ Below W.heap.size W w' := by
  obtain ⟨er, he⟩ := hL
  obtain ⟨x, xc, rfl, hx⟩ := open_E o0 h0
  obtain ⟨a, ac, rfl, ha⟩ := open_V o1 h1
  exact applyBack_at er W he x a xc ac hx ha
end

end Go.Proofs.YtkldcjlkeblggaaDoor
