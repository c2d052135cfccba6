/- invert.into, walked. -/
import Derived.Test.YtkldcjlkeblggaaDoorGroupE
import Derived.Test.YtkldcjlkeblggaaDoorGroupD
namespace Go.Proofs.YtkldcjlkeblggaaDoor
open Go.RowKit
open Val (V E)
set_option linter.unusedVariables false
set_option linter.unusedSimpArgs false

theorem Val.invF_take : ∀ (f : List (Int × E)) (k : Nat) (h : k < f.length), Val.invF (f.take (k + 1)) = Val.invF (f.take k) ++ [(f[k].1, Val.inv f[k].2)]
  | (n, e) :: r, 0, _ => by simp [Val.invF]
  | (n, e) :: r, k + 1, h => by
    rw [List.take_succ_cons, List.take_succ_cons, Val.invF, Val.invF, Val.invF_take r k (by simpa using h)]; rfl
theorem Val.eszF_mem : ∀ {l : List (Int × E)} {e : Int × E}, e ∈ l → Val.esz e.2 ≤ Val.eszF l
  | (n, v) :: r, e, h => by
    rw [Val.eszF]
    rcases List.mem_cons.1 h with rfl | h
    · simp only; omega
    · have := Val.eszF_mem h; omega
theorem EFs.snoc {h : Frag} : ∀ {xs : List (Int × E)} {es : List (List Value)} {n : Int} {x : E} {xc : List Value}, EFs h xs es → ER h x xc → EFs h (xs ++ [(n, x)]) (es ++ [.int .i64 n :: xc])
  | [], es, n, x, xc, hv, hx => by rw [EFs] at hv; subst hv; simp only [List.nil_append]; rw [EFs]; exact ⟨xc, [], rfl, hx, by rw [EFs]⟩
  | (m, y) :: r, es, n, x, xc, hv, hx => by
    rw [EFs] at hv
    obtain ⟨yc, er, rfl, h2, h3⟩ := hv
    simp only [List.cons_append]; rw [EFs]
    exact ⟨yc, _, rfl, h2, h3.snoc hx⟩
theorem T_EF : SliceT Tryd.prog 28 53 (.agg (Value.int .i64 0 :: zE).toArray) 22 368 := ⟨Tryd.underlying28, by kernel_rfl, rfl, by decide, by decide⟩
theorem infoFs : (Tryd.prog.info? 28).map (·.size) = some 1 := by kernel_rfl
theorem infoEF2 : (Tryd.prog.info? 53).map (fun i => (i.size, i.zero.map (fun z => z.cells.size))) = some (22, some 22) := by kernel_rfl
theorem infoInt : (Tryd.prog.info? 3).map (·.size) = some 1 := by kernel_rfl
theorem infoStr : (Tryd.prog.info? 9).map (·.size) = some 1 := by kernel_rfl

/-- invert.into's row of fields -/
abbrev IntoRow (B g0 g2 : Nat) (F : List (Option Nat)) (f : List (Int × E)) (k : Nat) (w : World) (v : Value) (es : List (List Value)) : Prop :=
  RowR B 53 22 (some g0 :: some g2 :: F) (fun h es => EFs h (Val.invF (f.take k)) es) w v es

set_option maxRecDepth 100000 in
set_option maxHeartbeats 4000000 in
theorem iinto_any (N : Nat) (ih : OfAt N) : IntoAt N := by
  intro F x xc w hF hs hk hr hz hx
  obtain ⟨kd, o, n, f, r, ro, rn, s, ks⟩ := x
  simp only [Val.E.kind, Val.E.fields] at hk hs
  subst hk
  have hall : Val.allF f := by
    obtain ⟨_, h⟩ := Val.eright_parts hr
    rcases h with h | h | h | h | h
    · omega
    · omega
    · exact h.2
    · omega
    · omega
  have hzf : Val.eszF f ≤ 90000 := by rw [Val.esz] at hz; omega
  have HALL := Lib.hid (fun e (he : e ∈ f) => And.intro (hall e he).2 (Nat.le_trans (Val.eszF_mem he) hzf))
  have hfl := Val.eszF_len f
  rw [ER] at hx
  obtain ⟨oc, nc, fv, sv, kv, fe, se, ke, hxc, h2, h3, h4, h5⟩ := hx
  have HE : Val.inv (.mk 2 o n f r ro rn s ks) = .mk 2 o n (Val.invF f) r rn ro s ks := by rw [Val.inv]; simp
  rw [HE]
  obtain ⟨a1, c1, hfv, hc1, hc2, hcn⟩ := h4.1.len
  subst hfv
  have hC : Cells21 xc (.int .i64 2) oc nc (.slice a1 fe.length c1) (.bool r) (.string ro) (.string rn) sv kv := ⟨hxc, h3.1.len, h3.2.len⟩
  have HA := Lib.hid (fun (w2 : World) (g : Nat) (hB : Blk w2 g xc) => hB.cell (hC.tl 0))
  have HX5 : Hid (FlatC 22 (fragE w F) (.slice a1 fe.length c1) fe ∧ EFs (fragE w F) f fe) := ⟨h4.1, h5.1⟩
  have hlen := h5.1.len
  have HP := Lib.hid (fun (v : Value) => (show patch (patch (patch xc 15 [v]) 17 [.string rn]) 18 [.string ro] = .int .i64 2 :: (oc ++ (nc ++ [v, .bool r, .string rn, .string ro, sv, kv])) by
    rw [hxc, show (15 : Nat) = 15 + 0 from rfl, patch_tail h3.1.len h3.2.len, show (17 : Nat) = 15 + 2 from rfl, patch_tail h3.1.len h3.2.len, show (18 : Nat) = 15 + 3 from rfl, patch_tail h3.1.len h3.2.len]; rfl))
  have HQ := Lib.hid (fun (v : Value) (w2 : World) (g : Nat) (hB : Blk w2 g (patch xc 15 [v])) => (show w2.cell? ⟨g, 17, none⟩ = some (.string ro) ∧ w2.cell? ⟨g, 18, none⟩ = some (.string rn) by
    have hD : Cells21 (patch xc 15 [v]) (.int .i64 2) oc nc v (.bool r) (.string ro) (.string rn) sv kv := ⟨by
      rw [hxc, show (15 : Nat) = 15 + 0 from rfl, patch_tail h3.1.len h3.2.len]; rfl, h3.1.len, h3.2.len⟩
    exact ⟨hB.cell (hD.tl 2), hB.cell (hD.tl 3)⟩))
  have Hlen := Lib.hid hC.len
  have HL2 := Lib.hid (fun (v : Value) => (show (patch xc 15 [v]).length = 21 by rw [patch_len (by rw [Hlen.out]; exact (show 15 + 1 ≤ 21 by decide)), Hlen.out]))
  have HL3 := Lib.hid (fun (v : Value) => (show (patch (patch xc 15 [v]) 17 [.string rn]).length = 21 by rw [patch_len (by rw [HL2.out]; exact (show 17 + 1 ≤ 21 by decide)), HL2.out]))
  have HR := Lib.hid (fun (w' : World) (g0 g2 : Nat) (v : Value) (es : List (List Value)) (hb : Below w.heap.size w w') (hv : FlatC 22 (fragE w' (some g0 :: some g2 :: F)) v es) (hes : EFs (fragE w' (some g0 :: some g2 :: F)) (Val.invF f) es) =>
    (show ER (fragE w' F) (.mk 2 o n (Val.invF f) r rn ro s ks) (patch (patch (patch xc 15 [v]) 17 [.string rn]) 18 [.string ro]) by
      have hle : FLe (fragE w F) (fragE w' F) := belowE hb (fun k hk => .inl hk)
      have hle2 : FLe (fragE w' (some g0 :: some g2 :: F)) (fragE w' F) := belowE (Below.refl _ _) (fun k hk => .inl (by simp [hk]))
      rw [HP.out, ER]
      exact ⟨oc, nc, v, sv, kv, es, se, ke, rfl, ⟨h2.2, h2.1⟩, ⟨h3.1.mono hle, h3.2.mono hle⟩, ⟨hv.mono hle2, h4.2.1.mono hle, h4.2.2.mono hle⟩, EFs.mono hle2 hes, ESs.mono hle h5.2.1, EKs.mono hle h5.2.2⟩))
  have HF := Lib.hid hF
  have HS := Lib.hid hs
  obtain ⟨ns, hn⟩ : ∃ ns, ns = fe.length := ⟨_, rfl⟩
  rw [← hn] at HA HX5 hc1 hlen
  have Hn := Lib.hid hn.symm; have Hm := Lib.hid hlen.symm
  have hns : ns ≤ 90000 := by omega
  have hns' : ns ≤ 9223372036854775807 := by omega
  clear hC hxc h2 h3 h4 h5 hall hzf hfl hn hlen HE hr hz hs hF
  go_enter Tryd.func19, Tryd.ntmps19
  go_wp2_with (first
    | (refine wpList_box_lay rfl 32 _ rfl _ rfl ?_; (intro w0 g0 hg0 hB0 hb0))
    | (refine wpList_alloc_lay rfl 32 rfl zE zeroE ?_; (intro w2 g2 hg2 hB2 hb2; have hne : Hid (g0 < g2) := Nat.lt_of_lt_of_le hB0.lt hg2; replace hB0 := hB0.below hb2 hB0.lt; replace hg2 := Nat.le_trans hb0.size hg2; replace hb0 := hb0.trans (hb2.mono hb0.size); clear hb2; have q15 := HA.out _ _ hB0)))
  have Hg : Hid (w.heap.size ≤ g0 ∧ g0 < g2 ∧ w.heap.size ≤ g2) := ⟨hg0, hne.out, hg2⟩
  have Hb2 := Lib.hid hb0
  have HBB : Hid (Blk w2 g0 xc ∧ Blk w2 g2 zE) := ⟨hB0, hB2⟩
  clear hg0 hne hg2 hB0 hB2 hb0
  go_wp2_with fail
  clear q15
  go_loopw [3, 9] (fun u i wr => ∃ (k : Nat) (v : Value) (es : List (List Value)), k ≤ ns ∧ v = u ∧ i = .int .i64 k ∧ Hid (IntoRow w2.heap.size g0 g2 F f k wr v es ∧ es.length = k) ∧ Hid (Below w2.heap.size w2 wr)) (fun _ i _ => ns - (intOf i).toNat)
  case atStart => exact ⟨0, _, [], Nat.zero_le _, rfl, rfl, ⟨RowR.nil (fun h => by simp [Val.invF, EFs]), rfl⟩, Below.refl _ _⟩
  case round =>
    obtain ⟨k, v, es, hkn, rfl, rfl, HI, HB⟩ := hrel
    have Hbw : Hid (Below w.heap.size w wr) := Hb2.out.trans (HB.out.mono Hb2.out.size)
    have hB0 : Blk wr g0 xc := HBB.out.1.below HB.out HBB.out.1.lt
    have hB2 : Blk wr g2 zE := HBB.out.2.below HB.out HBB.out.2.lt
    by_cases hlt : k < ns
    · have hks : k < fe.length := by rw [Hn.out]; exact hlt
      have hkf : k < f.length := by rw [Hm.out]; exact hlt
      obtain ⟨b0, o0, hb0, hidx, hcell⟩ := FlatC.at (n := ns) (cap := c1) (a := a1) (HX5.out.1.mono (fragE_le _ _)) (by decide) (i := k) hks Tryd.underlying28 sizeEF
      obtain ⟨exc, hx, rx⟩ := HX5.out.2.at hkf hks
      have hr : wr.rangeAt b0 o0 fe[k] := range_below hcell Hbw.out hb0
      rw [hx] at hr
      have H22 := rx.shape.cons f[k].1
      have HL22 := Lib.hid H22.1
      have H1 := Lib.hid H22.2
      have HT := Lib.hid (Val.invF_take f k hkf)
      have ha := HALL.out _ (List.getElem_mem hkf)
      have HRg : Hid (SizeOf.sizeOf f[k].2 < N ∧ Val.eright f[k].2 = true ∧ Val.esz f[k].2 ≤ 90000) := ⟨HS.out _ (List.getElem_mem hkf), ha.1, ha.2⟩
      have HX : Hid (ER (fragE w F) f[k].2 exc) := rx
      have HLx := Lib.hid HX.out.shape.len
      have HBs := Lib.hid (fun (w2 : World) (g : Nat) (hB : Blk w2 g (.int .i64 f[k].1 :: exc)) => And.intro (hB.cell (o := 0) (u := .int .i64 f[k].1) rfl) (show w2.rangeAt g 1 exc from hB.range (p := [.int .i64 f[k].1]) (q := exc) (r := []) (by simp) rfl))
      have hl0 : Hid (∀ j, some j ∈ v.ownBlock :: some g0 :: some g2 :: F → j < wr.heap.size) := fun j hj => HI.out.1.lt (fun j hj => by
        simp only [List.mem_cons, Option.some.injEq] at hj
        rcases hj with hj | hj | hj
        · subst hj; exact hB0.lt
        · subst hj; exact hB2.lt
        · exact Nat.lt_of_lt_of_le (HF.out j hj) Hbw.out.size) j hj
      have hl1 : Hid (∀ j, some j ∈ v.ownBlock :: some g0 :: some g2 :: F → some j ∈ F ∨ w.heap.size ≤ j) := fun j hj => by
        simp only [List.mem_cons, Option.some.injEq] at hj
        rcases hj with hj | hj | hj | hj
        · right; have := HI.out.1.ge j hj.symm; have := Hb2.out.size; omega
        · right; have := Hg.out; omega
        · right; have := Hg.out; omega
        · exact .inl hj
      have HLes := Lib.hid HI.out.2
      clear hcell hx rx H22 ha hB0 hB2
      generalize f[k].1 = num at *
      generalize f[k].2 = ex at *
      go_wp2_with (first
        | (refine wpList_load_seg rfl 53 _ rfl _ _ rfl _ _ (by assumption) Tryd.underlying53 rfl ?_ ?_; (· exact infoEF.trans (congrArg some HL22.out.symm)))
        | (refine wpList_alloc_lay rfl 53 rfl (.int .i64 0 :: zE) zeroEF ?_; (intro w4 g7 hg7 hB7 hb4; clear hr))
        | (refine wpList_store_all rfl 53 _ _ rfl _ _ rfl rfl (.int .i64 0 :: zE) (by assumption) ?_ ?_ ?_ ?_; (· exact infoEF.trans (congrArg some HL22.out.symm)); (· exact HL22.out); (· exact H1.out); (intro w5 hB9 hgr5; have hb5 := Below.grown hb4 hgr5 hb4.size (fun _ e => by cases e; exact hg7); obtain ⟨q0, q1⟩ := HBs.out w5 _ hB9; clear hb4 hgr5 hB7)))
      have Hb5 := Lib.hid hb5
      have hg7l := hB9.lt
      clear hb5 hg7 hB9 hidx
      have HI5 : Hid (IntoRow w2.heap.size g0 g2 F f k w5 v es) := HI.out.1.below (fun _ _ hle h => EFs.mono hle h) Hb5.out
      have HOf : Hid (Calls Tryd.prog 10 #[.agg exc.toArray] w5.drew (RetF (v.ownBlock :: some g0 :: some g2 :: F) w5.drew (Val.inv ex))) :=
        ih _ ex exc w5.drew (fun j hj => Nat.lt_of_lt_of_le (hl0.out j hj) Hb5.out.size) HRg.out.1 HRg.out.2.1 HRg.out.2.2 (HX.out.mono (belowE (Hbw.out.trans (Hb5.out.mono Hbw.out.size)).drew hl1.out))
      go_wp2_with fail
      have hP : w5.drew.cell? ⟨g7, 0, none⟩ = some (.int .i64 num) ∧ w5.drew.rangeAt g7 1 exc ∧ Below w5.heap.size w5 w5.drew := ⟨q0, q1, (Below.refl _ _).drew⟩
      refine wp_region_G 8 (fun _ => True) (fun w' => w'.cell? ⟨g7, 0, none⟩ = some (.int .i64 num) ∧ w'.rangeAt g7 1 exc ∧ Below w5.heap.size w5 w') (by kernel_rfl) trivial hP (fun _ => ?_)
      refine wpAnyG_take (i := 0) (v := v) rfl (by kernel_rfl) (fun _ _ _ h => h) (.inl ⟨by rfl, fun w hw => by go_simp⟩) (InvG.mk trivial hP) ?_
      refine wpAnyG_take (i := 1) (v := .pointer (some ⟨g7, 0, none⟩)) rfl (by kernel_rfl) (fun _ _ _ h => h) (.inl ⟨by rfl, fun w hw => by go_simp⟩) (InvG.mk trivial hP) ?_
      refine wpAnyG_take (i := 2) (v := .int .i64 num) rfl (by kernel_rfl) (fun _ _ _ h => h) (.inl ⟨by rfl, fun w hw => by have hc := hw.2.1; clear hw; go_simp⟩) (InvG.mk trivial hP) ?_
      refine wpAnyG_take (i := 3) (v := .pointer (some ⟨g7, 1, none⟩)) rfl (by kernel_rfl) (fun _ _ _ h => h) (.inl ⟨by rfl, fun w hw => by go_simp⟩) (InvG.mk trivial hP) ?_
      refine wpAnyG_take (i := 4) (v := .agg exc.toArray) rfl (by kernel_rfl) (fun _ _ _ h => h) (yieldsIf_load_mid (by rfl) 32 _ rfl g7 1 rfl exc _ (fun w h => h.2.2.1) Tryd.underlying32 rfl (infoE.trans (congrArg some HLx.out.symm))) (InvG.mk trivial hP) ?_
      refine wpAnyG_ready (rs := [5]) (by kernel_rfl) (by simp) ?_
      refine AllReadyG.cons rfl (fun K hK => ?_) AllReadyG.nil
      go_simp
      refine HOf.out.mono ?_
      rintro e w6 ⟨yc, rfl, hy, hb6⟩
      have hb6' : Below w5.heap.size w5 w6 := (Below.refl _ _).drew.trans hb6
      have hP6 : w6.cell? ⟨g7, 0, none⟩ = some (.int .i64 num) ∧ w6.rangeAt g7 1 exc ∧ Below w5.heap.size w5 w6 := ⟨(hb6'.cell hg7l).trans q0, range_below q1 hb6' hg7l, hb6'⟩
      have HY := Lib.hid hy
      have HLy := Lib.hid hy.shape.len
      refine hK.out _ _ (InvG.mk trivial hP6) (fun _ => ?_)
      clear hK hy
      have HNl : Hid ((Value.int .i64 num :: yc).length = 22) := by show _ = _; rw [List.length_cons, HLy.out]
      refine wpAnyG_take (i := 6) (v := .agg (.int .i64 num :: yc).toArray) rfl (by kernel_rfl) (fun _ _ _ h => h) (yieldsIf_build2 (by rfl) 53 _ _ rfl [.int .i64 num] yc _ _ rfl rfl Tryd.underlying53 zeroEF rfl rfl infoInt (infoE.trans (congrArg some HLy.out.symm)) (by rw [HLy.out]; rfl) rfl rfl) (InvG.mk trivial hP6) ?_
      refine wpAnyG_ready (rs := [7]) (by kernel_rfl) (by simp) ?_
      refine AllReadyG.cons rfl (fun K hK => ?_) AllReadyG.nil
      rw [if_pos (by rfl)]
      refine wp_buildSlice1 28 53 _ rfl (.int .i64 num :: yc) _ rfl Tryd.underlying28 (by rw [HNl.out]; exact infoEF2) (by simp) (by rw [HNl.out]; decide) rfl ?_
      have hb7 : Below w5.heap.size w5 (w6.alloc (.cells (Value.int .i64 num :: yc).toArray 53)) := hb6'.alloc hb6'.size _
      refine hK.out _ _ (InvG.mk trivial ⟨(hb7.cell hg7l).trans q0, range_below q1 hb7 hg7l, hb7⟩) (fun _ => ?_)
      clear hK
      refine wpAnyG_ready (rs := [8]) (by kernel_rfl) (by simp) ?_
      refine AllReadyG.cons rfl (fun K hK => ?_) AllReadyG.nil
      rw [if_pos (by rfl)]
      have HI6 : Hid (IntoRow w2.heap.size g0 g2 F f k w6 v es) := HI5.out.below (fun _ _ hle h => EFs.mono hle h) hb6'
      have hB6 : w2.heap.size ≤ w6.heap.size := Nat.le_trans HB.out.size (Nat.le_trans Hb5.out.size hb6'.size)
      refine wp_append_one T_EF _ _ rfl (fun h es => EFs h (Val.invF (f.take (k + 1))) es) (.int .i64 num :: yc) (by rfl) HI6.out (by rfl) HNl.out (fun u hu => by
          rcases List.mem_cons.1 hu with rfl | hu
          · rfl
          · exact HY.out.shape.one u hu) (by rw [HLes.out]; omega) hB6 (fun h' hle => by rw [HT.out]; exact EFs.snoc (EFs.mono hle HI6.out.rd) (ER.mono ((belowE (Below.refl _ _) (fun _ h => .inl h)).trans hle) HY.out)) ?_
      intro v' w8 h8 hb8 hg8 _
      have H8 := Lib.hid h8
      have Hb8 : Hid (Below w2.heap.size w2 w8) := (HB.out.trans ((Hb5.out.trans (hb6'.mono Hb5.out.size)).mono HB.out.size)).trans hb8
      refine hK.out _ _ (InvG.past trivial (by kernel_rfl)) (fun _ => ?_)
      clear hK h8 hb8 hg8 hP hP6 hb7 hb6 hb6' q0 q1 hB6
      refine wpAnyG_take0 (i := 9) (v := v') rfl (by kernel_rfl) (fun _ _ _ h => h) (.inl ⟨by rfl, fun w hw => by go_simp⟩) (InvG.past trivial (by kernel_rfl)) ?_
      refine wpAnyG_done (by kernel_rfl) ?_ _
      have HLn : Hid ((es ++ [Value.int .i64 num :: yc]).length = k + 1) := by show _ = _; rw [List.length_append, HLes.out]; rfl
      go_wp2_with fail
      go_roundw
      case rel => exact ⟨k + 1, _, _, by omega, rfl, by go_num, ⟨H8.out, HLn.out⟩, Hb8.out⟩
      case measure => simp [intOf]; omega
    · obtain rfl : k = ns := by omega
      have HV5 : Hid (FlatC 22 (fragE wr (some g0 :: some g2 :: F)) v es) := HI.out.1.flat (fun j hj => by
        simp only [List.mem_cons, Option.some.injEq] at hj
        rcases hj with hj | hj | hj
        · subst hj; exact HBB.out.1.lt
        · subst hj; exact HBB.out.2.lt
        · exact Nat.lt_of_lt_of_le (HF.out j hj) Hb2.out.size)
      have HS5 : Hid (EFs (fragE wr (some g0 :: some g2 :: F)) (Val.invF f) es) := by
        have h : EFs (fragE wr (some g0 :: some g2 :: F)) (Val.invF (f.take k)) es := HI.out.1.read (fun _ _ hle h => EFs.mono hle h)
        rw [List.take_of_length_le (by rw [Hm.out]; omega)] at h
        exact h
      have hone := HI.out.1.one
      have hb0 := Hbw.out
      clear HI HB hlt
      go_wp2_with (first
        | (refine wpList_store_blk1 rfl 28 _ _ rfl g0 15 v rfl rfl xc hB0 infoFs ?_ hone ?_; (· rw [Hlen.out]; decide); (intro w4 hB4 hgr hsz; replace hB2 := hB2.grown hgr (by have := Hg.out; intro e; cases e; omega); replace HV5 := Lib.hid (HV5.out.mono (grownE hgr (.inr (by simp)) (fun k hk => .inl hk))); replace HS5 := Lib.hid (EFs.mono (grownE hgr (.inr (by simp)) (fun k hk => .inl hk)) HS5.out); replace hb0 := Below.grown hb0 hgr hb0.size (fun _ e => by cases e; exact Hg.out.1); obtain ⟨q17, q18⟩ := HQ.out _ _ _ hB4; clear hgr hsz hB0))
        | (refine wpList_store_blk1 rfl 9 _ _ rfl g0 17 (.string rn) rfl rfl (patch xc 15 [v]) hB4 infoStr ?_ rfl ?_; (· rw [HL2.out]; decide); (intro w5 hB5 hgr hsz; replace hB2 := hB2.grown hgr (by have := Hg.out; intro e; cases e; omega); replace HV5 := Lib.hid (HV5.out.mono (grownE hgr (.inr (by simp)) (fun k hk => .inl hk))); replace HS5 := Lib.hid (EFs.mono (grownE hgr (.inr (by simp)) (fun k hk => .inl hk)) HS5.out); replace hb0 := Below.grown hb0 hgr hb0.size (fun _ e => by cases e; exact Hg.out.1); clear hgr hsz hB4 q17 q18))
        | (refine wpList_store_blk1 rfl 9 _ _ rfl g0 18 (.string ro) rfl rfl (patch (patch xc 15 [v]) 17 [.string rn]) hB5 infoStr ?_ rfl ?_; (· rw [HL3.out]; decide); (intro w6 hB6 hgr hsz; replace hB2 := hB2.grown hgr (by have := Hg.out; intro e; cases e; omega); replace HV5 := Lib.hid (HV5.out.mono (grownE hgr (.inr (by simp)) (fun k hk => .inl hk))); replace HS5 := Lib.hid (EFs.mono (grownE hgr (.inr (by simp)) (fun k hk => .inl hk)) HS5.out); replace hb0 := Below.grown hb0 hgr hb0.size (fun _ e => by cases e; exact Hg.out.1); have HY := HR.out w6 g0 g2 _ _ hb0 HV5.out HS5.out; have HYl := Lib.hid HY.shape.len; have HYo := Lib.hid HY.shape.one; clear hgr hsz hB5 HY; generalize hyc : patch (patch (patch xc 15 [v]) 17 [.string rn]) 18 [.string ro] = yc at hB6 HYl HYo; have Hyc := Lib.hid hyc; clear hyc; have r9 := hB6.whole))
        | (refine wpList_load_seg rfl 32 _ rfl _ _ rfl _ _ r9 Tryd.underlying32 rfl ?_ ?_; (· exact infoE.trans (congrArg some HYl.out.symm)))
        | (refine wpList_store_all rfl 32 _ _ rfl g2 yc rfl rfl zE hB2 ?_ ?_ HYo.out ?_; (· exact infoE.trans (congrArg some HYl.out.symm)); (· exact HYl.out); (intro w7 hB7 hgr; replace HV5 := Lib.hid (HV5.out.mono (grownE hgr (.inr (by simp)) (fun k hk => .inl hk))); replace HS5 := Lib.hid (EFs.mono (grownE hgr (.inr (by simp)) (fun k hk => .inl hk)) HS5.out); replace hb0 := Below.grown hb0 hgr hb0.size (fun _ e => by cases e; exact Hg.out.2.2); clear hgr r9)))
      refine bodyPost_ret (v := .agg yc.toArray) ?_ rfl ⟨yc, rfl, ?_, hb0⟩
      · exact results_blk rfl _ _ g2 yc rfl hB7 _ Tryd.underlying32 rfl (infoE.trans (congrArg some HYl.out.symm))
      · rw [← Hyc.out]; exact HR.out w7 g0 g2 _ _ hb0 HV5.out HS5.out

end Go.Proofs.YtkldcjlkeblggaaDoor
