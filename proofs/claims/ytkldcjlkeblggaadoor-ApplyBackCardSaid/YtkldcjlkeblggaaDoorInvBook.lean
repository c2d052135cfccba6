/- invert.book, walked. -/
import Derived.Test.YtkldcjlkeblggaaDoorInvInto
namespace Go.Proofs.YtkldcjlkeblggaaDoor
open Go.RowKit
open Val (V E)
set_option linter.unusedVariables false
set_option linter.unusedSimpArgs false

theorem Val.invK_take : ∀ (f : List (V × E)) (k : Nat) (h : k < f.length), Val.invK (f.take (k + 1)) = Val.invK (f.take k) ++ [(f[k].1, Val.inv f[k].2)]
  | (n, e) :: r, 0, _ => by simp [Val.invK]
  | (n, e) :: r, k + 1, h => by
    rw [List.take_succ_cons, List.take_succ_cons, Val.invK, Val.invK, Val.invK_take r k (by simpa using h)]; rfl
theorem Val.eszK_mem : ∀ {l : List (V × E)} {e : V × E}, e ∈ l → Val.esz e.2 ≤ Val.eszK l
  | (n, v) :: r, e, h => by
    rw [Val.eszK]
    rcases List.mem_cons.1 h with rfl | h
    · simp only; omega
    · have := Val.eszK_mem h; omega
theorem EKs.snoc {h : Frag} : ∀ {xs : List (V × E)} {es : List (List Value)} {n : V} {x : E} {nc xc : List Value}, EKs h xs es → VR h n nc → ER h x xc → EKs h (xs ++ [(n, x)]) (es ++ [nc ++ xc])
  | [], es, n, x, nc, xc, hv, hn, hx => by rw [EKs] at hv; subst hv; simp only [List.nil_append]; rw [EKs]; exact ⟨nc, xc, [], rfl, hn, hx, by rw [EKs]⟩
  | (m, y) :: r, es, n, x, nc, xc, hv, hn, hx => by
    rw [EKs] at hv
    obtain ⟨mc, yc, er, rfl, h1, h2, h3⟩ := hv
    simp only [List.cons_append]; rw [EKs]
    exact ⟨mc, yc, _, rfl, h1, h2, h3.snoc hn hx⟩
theorem T_EK : SliceT Tryd.prog 30 57 (.agg (zV ++ zE).toArray) 28 480 := ⟨Tryd.underlying30, by kernel_rfl, rfl, by decide, by decide⟩
theorem infoKs : (Tryd.prog.info? 30).map (·.size) = some 1 := by kernel_rfl
theorem infoEK2 : (Tryd.prog.info? 57).map (fun i => (i.size, i.zero.map (fun z => z.cells.size))) = some (28, some 28) := by kernel_rfl

/-- invert.book's row of keys -/
abbrev BookRow (B g0 g2 : Nat) (F : List (Option Nat)) (f : List (V × E)) (k : Nat) (w : World) (v : Value) (es : List (List Value)) : Prop :=
  RowR B 57 28 (some g0 :: some g2 :: F) (fun h es => EKs h (Val.invK (f.take k)) es) w v es

set_option maxRecDepth 100000 in
set_option maxHeartbeats 4000000 in
theorem ibook_any (N : Nat) (ih : OfAt N) : BookAt N := by
  intro F x xc w hF hs hk hr hz hx
  obtain ⟨kd, o, n, fs, r, ro, rn, s, f⟩ := x
  simp only [Val.E.kind, Val.E.keys] at hk hs
  subst hk
  have hall : Val.allK f := by
    obtain ⟨_, h⟩ := Val.eright_parts hr
    rcases h with h | h | h | h | h
    · omega
    · omega
    · omega
    · omega
    · exact h.2
  have hzf : Val.eszK f ≤ 90000 := by rw [Val.esz] at hz; omega
  have HALL := Lib.hid (fun e (he : e ∈ f) => And.intro (hall e he).2 (Nat.le_trans (Val.eszK_mem he) hzf))
  have hfl := Val.eszK_len f
  rw [ER] at hx
  obtain ⟨oc, nc, fv, sv, kv, ffe, se, fe, hxc, h2, h3, h4, h5⟩ := hx
  have HE : Val.inv (.mk 4 o n fs r ro rn s f) = .mk 4 o n fs r ro rn s (Val.invK f) := by rw [Val.inv]; simp
  rw [HE]
  obtain ⟨a1, c1, hkv, hc1, hc2, hcn⟩ := h4.2.2.len
  subst hkv
  have hC : Cells21 xc (.int .i64 4) oc nc fv (.bool r) (.string ro) (.string rn) sv (.slice a1 fe.length c1) := ⟨hxc, h3.1.len, h3.2.len⟩
  have HA := Lib.hid (fun (w2 : World) (g : Nat) (hB : Blk w2 g xc) => hB.cell (hC.tl 5))
  have HX5 : Hid (FlatC 28 (fragE w F) (.slice a1 fe.length c1) fe ∧ EKs (fragE w F) f fe) := ⟨h4.2.2, h5.2.2⟩
  have hlen := h5.2.2.len
  have HP := Lib.hid (fun (v : Value) => (show patch xc 20 [v] = .int .i64 4 :: (oc ++ (nc ++ [fv, .bool r, .string ro, .string rn, sv, v])) by
    rw [hxc, show (20 : Nat) = 15 + 5 from rfl, patch_tail h3.1.len h3.2.len]; rfl))
  have Hlen := Lib.hid hC.len
  have HR := Lib.hid (fun (w' : World) (g0 g2 : Nat) (v : Value) (es : List (List Value)) (hb : Below w.heap.size w w') (hv : FlatC 28 (fragE w' (some g0 :: some g2 :: F)) v es) (hes : EKs (fragE w' (some g0 :: some g2 :: F)) (Val.invK f) es) =>
    (show ER (fragE w' F) (.mk 4 o n fs r ro rn s (Val.invK f)) (patch xc 20 [v]) by
      have hle : FLe (fragE w F) (fragE w' F) := belowE hb (fun k hk => .inl hk)
      have hle2 : FLe (fragE w' (some g0 :: some g2 :: F)) (fragE w' F) := belowE (Below.refl _ _) (fun k hk => .inl (by simp [hk]))
      rw [HP.out, ER]
      exact ⟨oc, nc, fv, sv, v, ffe, se, es, rfl, h2, ⟨h3.1.mono hle, h3.2.mono hle⟩, ⟨h4.1.mono hle, h4.2.1.mono hle, hv.mono hle2⟩, EFs.mono hle h5.1, ESs.mono hle h5.2.1, EKs.mono hle2 hes⟩))
  have HF := Lib.hid hF
  have HS := Lib.hid hs
  obtain ⟨ns, hn⟩ : ∃ ns, ns = fe.length := ⟨_, rfl⟩
  rw [← hn] at HA HX5 hc1 hlen
  have Hn := Lib.hid hn.symm; have Hm := Lib.hid hlen.symm
  have hns : ns ≤ 90000 := by omega
  have hns' : ns ≤ 9223372036854775807 := by omega
  clear hC hxc h2 h3 h4 h5 hall hzf hfl hn hlen HE hr hz hs hF
  go_enter Tryd.func21, Tryd.ntmps21
  go_wp2_with (first
    | (refine wpList_box_lay rfl 32 _ rfl _ rfl ?_; (intro w0 g0 hg0 hB0 hb0))
    | (refine wpList_alloc_lay rfl 32 rfl zE zeroE ?_; (intro w2 g2 hg2 hB2 hb2; have hne : Hid (g0 < g2) := Nat.lt_of_lt_of_le hB0.lt hg2; replace hB0 := hB0.below hb2 hB0.lt; replace hg2 := Nat.le_trans hb0.size hg2; replace hb0 := hb0.trans (hb2.mono hb0.size); clear hb2; have q20 := HA.out _ _ hB0)))
  have Hg : Hid (w.heap.size ≤ g0 ∧ g0 < g2 ∧ w.heap.size ≤ g2) := ⟨hg0, hne.out, hg2⟩
  have Hb2 := Lib.hid hb0
  have HBB : Hid (Blk w2 g0 xc ∧ Blk w2 g2 zE) := ⟨hB0, hB2⟩
  clear hg0 hne hg2 hB0 hB2 hb0
  go_wp2_with fail
  clear q20
  go_loopw [3, 9] (fun u i wr => ∃ (k : Nat) (v : Value) (es : List (List Value)), k ≤ ns ∧ v = u ∧ i = .int .i64 k ∧ Hid (BookRow w2.heap.size g0 g2 F f k wr v es ∧ es.length = k) ∧ Hid (Below w2.heap.size w2 wr)) (fun _ i _ => ns - (intOf i).toNat)
  case atStart => exact ⟨0, _, [], Nat.zero_le _, rfl, rfl, ⟨RowR.nil (fun h => by simp [Val.invK, EKs]), rfl⟩, Below.refl _ _⟩
  case round =>
    obtain ⟨k, v, es, hkn, rfl, rfl, HI, HB⟩ := hrel
    have Hbw : Hid (Below w.heap.size w wr) := Hb2.out.trans (HB.out.mono Hb2.out.size)
    have hB0 : Blk wr g0 xc := HBB.out.1.below HB.out HBB.out.1.lt
    have hB2 : Blk wr g2 zE := HBB.out.2.below HB.out HBB.out.2.lt
    by_cases hlt : k < ns
    · have hks : k < fe.length := by rw [Hn.out]; exact hlt
      have hkf : k < f.length := by rw [Hm.out]; exact hlt
      obtain ⟨b0, o0, hb0, hidx, hcell⟩ := FlatC.at (n := ns) (cap := c1) (a := a1) (HX5.out.1.mono (fragE_le _ _)) (by decide) (i := k) hks Tryd.underlying30 sizeEK
      obtain ⟨kc, exc, hx, rk, rx⟩ := HX5.out.2.at hkf hks
      have hr : wr.rangeAt b0 o0 fe[k] := range_below hcell Hbw.out hb0
      rw [hx] at hr
      have HKc : Hid (VR (fragE w F) f[k].1 kc) := rk
      have HLk := Lib.hid HKc.out.len
      have HL22 : Hid ((kc ++ exc).length = 28) := by show _ = _; rw [List.length_append, rk.len, rx.shape.len]
      have H1 : Hid (∀ u ∈ kc ++ exc, u.oneCell' = true) := fun u hu => by
        rcases List.mem_append.1 hu with hu | hu
        · exact rk.shape.one u hu
        · exact rx.shape.one u hu
      have HT := Lib.hid (Val.invK_take f k hkf)
      have ha := HALL.out _ (List.getElem_mem hkf)
      have HRg : Hid (SizeOf.sizeOf f[k].2 < N ∧ Val.eright f[k].2 = true ∧ Val.esz f[k].2 ≤ 90000) := ⟨HS.out _ (List.getElem_mem hkf), ha.1, ha.2⟩
      have HX : Hid (ER (fragE w F) f[k].2 exc) := rx
      have HLx := Lib.hid HX.out.shape.len
      have HBs := Lib.hid (fun (w2 : World) (g : Nat) (hB : Blk w2 g (kc ++ exc)) => And.intro (show w2.rangeAt g 0 kc from hB.range (p := []) (q := kc) (r := exc) rfl rfl) (show w2.rangeAt g 7 exc from hB.range (p := kc) (q := exc) (r := []) (by simp) HLk.out))
      have hl0 : Hid (∀ j, some j ∈ v.ownBlock :: some g0 :: some g2 :: F → j < wr.heap.size) := fun j hj => HI.out.1.lt (fun j hj => by
        simp only [List.mem_cons, Option.some.injEq] at hj
        rcases hj with hj | hj | hj
        · subst hj; exact hB0.lt
        · subst hj; exact hB2.lt
        · exact Nat.lt_of_lt_of_le (HF.out j hj) Hbw.out.size) j hj
      have hl1 : Hid (∀ j, some j ∈ v.ownBlock :: some g0 :: some g2 :: F → some j ∈ F ∨ w.heap.size ≤ j) := fun j hj => by
        simp only [List.mem_cons, Option.some.injEq] at hj
        rcases hj with hj | hj | hj | hj
        · right; have := HI.out.1.ge j hj.symm; have := Hb2.out.size; omega
        · right; have := Hg.out; omega
        · right; have := Hg.out; omega
        · exact .inl hj
      have HLes := Lib.hid HI.out.2
      clear hcell hx rx rk ha hB0 hB2
      generalize f[k].1 = num at *
      generalize f[k].2 = ex at *
      go_wp2_with (first
        | (refine wpList_load_seg rfl 57 _ rfl _ _ rfl _ _ (by assumption) Tryd.underlying57 rfl ?_ ?_; (· exact infoEK.trans (congrArg some HL22.out.symm)))
        | (refine wpList_alloc_lay rfl 57 rfl (zV ++ zE) zeroEK ?_; (intro w4 g7 hg7 hB7 hb4; clear hr))
        | (refine wpList_store_all rfl 57 _ _ rfl _ _ rfl rfl (zV ++ zE) (by assumption) ?_ ?_ ?_ ?_; (· exact infoEK.trans (congrArg some HL22.out.symm)); (· exact HL22.out); (· exact H1.out); (intro w5 hB9 hgr5; have hb5 := Below.grown hb4 hgr5 hb4.size (fun _ e => by cases e; exact hg7); obtain ⟨q0, q1⟩ := HBs.out w5 _ hB9; clear hb4 hgr5 hB7)))
      have Hb5 := Lib.hid hb5
      have hg7l := hB9.lt
      clear hb5 hg7 hB9 hidx
      have HI5 : Hid (BookRow w2.heap.size g0 g2 F f k w5 v es) := HI.out.1.below (fun _ _ hle h => EKs.mono hle h) Hb5.out
      have HOf : Hid (Calls Tryd.prog 10 #[.agg exc.toArray] w5.drew (RetF (v.ownBlock :: some g0 :: some g2 :: F) w5.drew (Val.inv ex))) :=
        ih _ ex exc w5.drew (fun j hj => Nat.lt_of_lt_of_le (hl0.out j hj) Hb5.out.size) HRg.out.1 HRg.out.2.1 HRg.out.2.2 (HX.out.mono (belowE (Hbw.out.trans (Hb5.out.mono Hbw.out.size)).drew hl1.out))
      go_wp2_with fail
      have hP : w5.drew.rangeAt g7 0 kc ∧ w5.drew.rangeAt g7 7 exc ∧ Below w5.heap.size w5 w5.drew := ⟨q0, q1, (Below.refl _ _).drew⟩
      refine wp_region_G 8 (fun _ => True) (fun w' => w'.rangeAt g7 0 kc ∧ w'.rangeAt g7 7 exc ∧ Below w5.heap.size w5 w') (by kernel_rfl) trivial hP (fun _ => ?_)
      refine wpAnyG_take (i := 0) (v := v) rfl (by kernel_rfl) (fun _ _ _ h => h) (.inl ⟨by rfl, fun w hw => by go_simp⟩) (InvG.mk trivial hP) ?_
      refine wpAnyG_take (i := 1) (v := .pointer (some ⟨g7, 0, none⟩)) rfl (by kernel_rfl) (fun _ _ _ h => h) (.inl ⟨by rfl, fun w hw => by go_simp⟩) (InvG.mk trivial hP) ?_
      refine wpAnyG_take (i := 2) (v := .agg kc.toArray) rfl (by kernel_rfl) (fun _ _ _ h => h) (yieldsIf_load_mid (by rfl) 27 _ rfl g7 0 rfl kc _ (fun w h => h.2.1) Tryd.underlying27 rfl (infoV.trans (congrArg some HLk.out.symm))) (InvG.mk trivial hP) ?_
      refine wpAnyG_take (i := 3) (v := .pointer (some ⟨g7, 7, none⟩)) rfl (by kernel_rfl) (fun _ _ _ h => h) (.inl ⟨by rfl, fun w hw => by go_simp⟩) (InvG.mk trivial hP) ?_
      refine wpAnyG_take (i := 4) (v := .agg exc.toArray) rfl (by kernel_rfl) (fun _ _ _ h => h) (yieldsIf_load_mid (by rfl) 32 _ rfl g7 7 rfl exc _ (fun w h => h.2.2.1) Tryd.underlying32 rfl (infoE.trans (congrArg some HLx.out.symm))) (InvG.mk trivial hP) ?_
      refine wpAnyG_ready (rs := [5]) (by kernel_rfl) (by simp) ?_
      refine AllReadyG.cons rfl (fun K hK => ?_) AllReadyG.nil
      go_simp
      refine HOf.out.mono ?_
      rintro e w6 ⟨yc, rfl, hy, hb6⟩
      have hb6' : Below w5.heap.size w5 w6 := (Below.refl _ _).drew.trans hb6
      have hP6 : w6.rangeAt g7 0 kc ∧ w6.rangeAt g7 7 exc ∧ Below w5.heap.size w5 w6 := ⟨range_below q0 hb6' hg7l, range_below q1 hb6' hg7l, hb6'⟩
      have HY := Lib.hid hy
      have HLy := Lib.hid hy.shape.len
      refine hK.out _ _ (InvG.mk trivial hP6) (fun _ => ?_)
      clear hK hy
      have HNl : Hid ((kc ++ yc).length = 28) := by show _ = _; rw [List.length_append, HLk.out, HLy.out]
      refine wpAnyG_take (i := 6) (v := .agg (kc ++ yc).toArray) rfl (by kernel_rfl) (fun _ _ _ h => h) (yieldsIf_build2 (by rfl) 57 _ _ rfl kc yc _ _ (by rfl) (by rfl) Tryd.underlying57 zeroEK rfl (by rw [HLk.out]) (infoV.trans (congrArg some HLk.out.symm)) (infoE.trans (congrArg some HLy.out.symm)) (by rw [HLk.out, HLy.out]; rfl) rfl rfl) (InvG.mk trivial hP6) ?_
      refine wpAnyG_ready (rs := [7]) (by kernel_rfl) (by simp) ?_
      refine AllReadyG.cons rfl (fun K hK => ?_) AllReadyG.nil
      rw [if_pos (by rfl)]
      refine wp_buildSlice1 30 57 _ rfl (kc ++ yc) _ rfl Tryd.underlying30 (by rw [HNl.out]; exact infoEK2) (by rw [HNl.out]; decide) (by rw [HNl.out]; decide) rfl ?_
      have hb7 : Below w5.heap.size w5 (w6.alloc (.cells (kc ++ yc).toArray 57)) := hb6'.alloc hb6'.size _
      refine hK.out _ _ (InvG.mk trivial ⟨range_below q0 hb7 hg7l, range_below q1 hb7 hg7l, hb7⟩) (fun _ => ?_)
      clear hK
      refine wpAnyG_ready (rs := [8]) (by kernel_rfl) (by simp) ?_
      refine AllReadyG.cons rfl (fun K hK => ?_) AllReadyG.nil
      rw [if_pos (by rfl)]
      have HI6 : Hid (BookRow w2.heap.size g0 g2 F f k w6 v es) := HI5.out.below (fun _ _ hle h => EKs.mono hle h) hb6'
      have HFl6 : Hid (FLe (fragE w F) (fragE w6 (v.ownBlock :: some g0 :: some g2 :: F))) := belowE (Hbw.out.trans ((Hb5.out.trans (hb6'.mono Hb5.out.size)).mono Hbw.out.size)) hl1.out
      have hB6 : w2.heap.size ≤ w6.heap.size := Nat.le_trans HB.out.size (Nat.le_trans Hb5.out.size hb6'.size)
      refine wp_append_one T_EK _ _ rfl (fun h es => EKs h (Val.invK (f.take (k + 1))) es) (kc ++ yc) (by rfl) HI6.out (by rfl) HNl.out (fun u hu => by
          rcases List.mem_append.1 hu with hu | hu
          · exact HKc.out.shape.one u hu
          · exact HY.out.shape.one u hu) (by rw [HLes.out]; omega) hB6 (fun h' hle => by rw [HT.out]; exact EKs.snoc (EKs.mono hle HI6.out.rd) (HKc.out.mono (HFl6.out.trans hle)) (ER.mono ((belowE (Below.refl _ _) (fun _ h => .inl h)).trans hle) HY.out)) ?_
      intro v' w8 h8 hb8 hg8 _
      have H8 := Lib.hid h8
      have Hb8 : Hid (Below w2.heap.size w2 w8) := (HB.out.trans ((Hb5.out.trans (hb6'.mono Hb5.out.size)).mono HB.out.size)).trans hb8
      refine hK.out _ _ (InvG.past trivial (by kernel_rfl)) (fun _ => ?_)
      clear hK h8 hb8 hg8 hP hP6 hb7 hb6 hb6' q0 q1 hB6
      refine wpAnyG_take0 (i := 9) (v := v') rfl (by kernel_rfl) (fun _ _ _ h => h) (.inl ⟨by rfl, fun w hw => by go_simp⟩) (InvG.past trivial (by kernel_rfl)) ?_
      refine wpAnyG_done (by kernel_rfl) ?_ _
      have HLn : Hid ((es ++ [kc ++ yc]).length = k + 1) := by show _ = _; rw [List.length_append, HLes.out]; rfl
      go_wp2_with fail
      go_roundw
      case rel => exact ⟨k + 1, _, _, by omega, rfl, by go_num, ⟨H8.out, HLn.out⟩, Hb8.out⟩
      case measure => simp [intOf]; omega
    · obtain rfl : k = ns := by omega
      have HV5 : Hid (FlatC 28 (fragE wr (some g0 :: some g2 :: F)) v es) := HI.out.1.flat (fun j hj => by
        simp only [List.mem_cons, Option.some.injEq] at hj
        rcases hj with hj | hj | hj
        · subst hj; exact HBB.out.1.lt
        · subst hj; exact HBB.out.2.lt
        · exact Nat.lt_of_lt_of_le (HF.out j hj) Hb2.out.size)
      have HS5 : Hid (EKs (fragE wr (some g0 :: some g2 :: F)) (Val.invK f) es) := by
        have h : EKs (fragE wr (some g0 :: some g2 :: F)) (Val.invK (f.take k)) es := HI.out.1.read (fun _ _ hle h => EKs.mono hle h)
        rw [List.take_of_length_le (by rw [Hm.out]; omega)] at h
        exact h
      have hone := HI.out.1.one
      have hb0 := Hbw.out
      clear HI HB hlt
      go_wp2_with (first
        | (refine wpList_store_blk1 rfl 30 _ _ rfl g0 20 v rfl rfl xc hB0 infoKs ?_ hone ?_; (· rw [Hlen.out]; decide); (intro w6 hB6 hgr hsz; replace hB2 := hB2.grown hgr (by have := Hg.out; intro e; cases e; omega); replace HV5 := Lib.hid (HV5.out.mono (grownE hgr (.inr (by simp)) (fun k hk => .inl hk))); replace HS5 := Lib.hid (EKs.mono (grownE hgr (.inr (by simp)) (fun k hk => .inl hk)) HS5.out); replace hb0 := Below.grown hb0 hgr hb0.size (fun _ e => by cases e; exact Hg.out.1); have HY := HR.out w6 g0 g2 _ _ hb0 HV5.out HS5.out; have HYl := Lib.hid HY.shape.len; have HYo := Lib.hid HY.shape.one; clear hgr hsz hB0 HY; generalize hyc : patch xc 20 [v] = yc at hB6 HYl HYo; have Hyc := Lib.hid hyc; clear hyc; have r9 := hB6.whole))
        | (refine wpList_load_seg rfl 32 _ rfl _ _ rfl _ _ r9 Tryd.underlying32 rfl ?_ ?_; (· exact infoE.trans (congrArg some HYl.out.symm)))
        | (refine wpList_store_all rfl 32 _ _ rfl g2 yc rfl rfl zE hB2 ?_ ?_ HYo.out ?_; (· exact infoE.trans (congrArg some HYl.out.symm)); (· exact HYl.out); (intro w7 hB7 hgr; replace HV5 := Lib.hid (HV5.out.mono (grownE hgr (.inr (by simp)) (fun k hk => .inl hk))); replace HS5 := Lib.hid (EKs.mono (grownE hgr (.inr (by simp)) (fun k hk => .inl hk)) HS5.out); replace hb0 := Below.grown hb0 hgr hb0.size (fun _ e => by cases e; exact Hg.out.2.2); clear hgr r9)))
      refine bodyPost_ret (v := .agg yc.toArray) ?_ rfl ⟨yc, rfl, ?_, hb0⟩
      · exact results_blk rfl _ _ g2 yc rfl hB7 _ Tryd.underlying32 rfl (infoE.trans (congrArg some HYl.out.symm))
      · rw [← Hyc.out]; exact HR.out w7 g0 g2 _ _ hb0 HV5.out HS5.out

end Go.Proofs.YtkldcjlkeblggaaDoor
