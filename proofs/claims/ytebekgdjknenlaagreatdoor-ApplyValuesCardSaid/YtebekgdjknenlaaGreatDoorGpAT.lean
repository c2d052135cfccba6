/- redlineref13.Put, walked. edit.Right, walked. -/
import Derived.Test.YtebekgdjknenlaaGreatDoorGpAR
set_option maxRecDepth 100000
set_option maxHeartbeats 8000000
set_option linter.unusedVariables false
set_option linter.unusedSimpArgs false
namespace Go.Proofs.YtebekgdjknenlaaGreatDoor
open Go.RowKit
open Val (V v0 mkM mkP)
theorem rp_build (w : World) : (Instr.build 40 #[]).run Tryz.prog w = .ok (.agg (cP 0 (.slice none 0 0)).toArray) w := by kernel_rfl
theorem wpList_build0 {P : Program} {ops : Array Oper} {rest : List Oper} {op : Oper} {a : Act} {w : World} {Q : Exit → Act → World → Prop} (hgd : op.guard = none) (t : TypeId) (ho : op.op = .build t #[]) (v : Value)
  (hr : ∀ w, (Instr.build t #[]).run P w = .ok v w) (h : wpList P ops Q rest (a.put op.dst v) w) : wpList P ops Q (op :: rest) a w :=
 wpList_plain hgd fun _ hK => by
  unfold Oper.wp execOp
  simp only [ho, List.map_toArray, List.map_nil, Sem.run_bind, Sem.run_pure, hr w, Result.andThen_ok]
  exact hK _ _ h
theorem VR.map0 {h : Frag} {u : Value} (h1 : FlatC 14 h u []) : VR h v0 (cP 0 u) := by
 unfold Val.v0; rw [VR]
 exact ⟨_, _, u, [], [], [], rfl, ⟨sz_empty, sz_empty⟩, ⟨FlatC.nil 8 h, FlatC.nil 7 h, h1⟩, by rw [FsR], by rw [LsR], by rw [PsR]⟩
theorem rput_good (F : List (Option Nat)) (kd nn : Int) (t r : ByteArray) (f0 : List (Int × V)) (l : List V) (f : List (V × V)) (n x : V) (vc nc xc : List Value) (w : World) (hF : ∀ k, some k ∈ F → k < w.heap.size) (hkd : kd = 5 ∨ kd = 0) (hlen : f.length ≤ 100000) (hv : VR (fragE w F) (.mk kd nn t f0 r l f) vc) (hn0 : VR (fragE w F) n nc) (hx : VR (fragE w F) x xc) :
  Calls Tryz.prog 51 #[.agg vc.toArray, .agg nc.toArray, .agg xc.toArray] w (RetRV F w (mkP (Val.gl Val.cmp n x f (decide (x.kind = 0))))) := by
 have HXx : Hid (VR (fragE w F) x xc) := hx
 have HLx := Yq hx.len
 have HK0 := Yq hx.k0
 have HOx := Yq hx.ones
 have HXn : Hid (VR (fragE w F) n nc) := hn0
 have HLn := Yq hn0.len
 have Hkd := Yq hkd
 have HLnx : Hid ((nc ++ xc).length = 14) := by show _ = _; rw [List.length_append, hn0.len, hx.len]
 have H1nx : Hid (∀ u ∈ nc ++ xc, u.oneCell' = true) := fun u hu => by
  rcases List.mem_append.1 hu with hu | hu
  ·exact hn0.ones u hu
  ·exact hx.ones u hu
 have HBd : Hid (∀ w, (Instr.build 67 #[(0, .agg nc.toArray), (1, .agg xc.toArray)]).run Tryz.prog w = .ok (.agg (nc ++ xc).toArray) w) := fun w => run_build2 (c0 := nc) (c1 := xc) Tryz.underlying67 zeroRP rfl (by rw [HLn.out]) (iC infoRV HLn) (iC infoRV HLx) (by rw [HLn.out, HLx.out]; rfl) rfl rfl w
 rw [VR] at hv
 obtain ⟨fv0, lv0, pv0, fe0, le, fe, hxc, h2, ⟨h5, h4, h3⟩, h8, h7, h6⟩ := hv
 obtain ⟨a1, c1, e1, b1, b2, b3⟩ := h3.len
 subst e1
 have HX1 : Hid (FlatC 14 (fragE w F) (.slice a1 fe.length c1) fe ∧ PsR (fragE w F) f fe) := ⟨h3, h6⟩
 have Hm1 := Yq h6.len
 have HC1 := Yq (fun (w2 : World) (g : Nat) (hB : Blk w2 g vc) => (show w2.cell? ⟨g, 0, none⟩ = some (.int .i64 kd) ∧ w2.cell? ⟨g, 6, none⟩ = some (.slice a1 fe.length c1) by
  subst hxc; exact ⟨hB.cell rfl, hB.cell rfl⟩))
 obtain ⟨ns, hn⟩ : ∃ z, z = fe.length := ⟨_, rfl⟩
 rw [← hn] at HC1
 rw [← hn] at HX1
 have Hn := Yq hn.symm
 have hns : ns ≤ 9223372036854775807 := by unfold maxLen at b2; omega
 have HFw := Yq hF
 obtain ⟨total, htot⟩ : ∃ z, z = Val.gl Val.cmp n x f (decide (x.kind = 0)) := ⟨_, rfl⟩
 rw [← htot]
 have Htl : Hid (total.length ≤ 200001) := by show _ ≤ _; rw [htot]; have h1 := Val.gl_len (c := Val.cmp) (n := n) (x := x) f (decide (x.kind = 0)); omega
 generalize hxk : x.kind = xk at htot
 have Hxk := Yq hxk; have Htot := Yq htot
 clear hxc h2 h3 h4 h5 h6 h7 h8 b1 b2 b3 hF hn hx hn0 hlen hxk htot hkd
 go_enter Tryz.func51, Tryz.ntmps51
 have HO := Own.nil w
 go_upto_region 1 with (first
  | ((with_reducible refine atOp (.box 40 _) ?_); refine wpList_box_own rfl 40 _ rfl vc rfl HO ?_; clear HO; intro w1 g1 HO)
  | ((with_reducible refine atOp (.box 40 _) ?_); refine wpList_box_own rfl 40 _ rfl nc rfl HO ?_; clear HO; intro w1 gn HO)
  | ((with_reducible refine atOp (.box 40 _) ?_); refine wpList_box_own rfl 40 _ rfl xc rfl HO ?_; clear HO; intro w1 gx HO)
  | ((with_reducible refine atOp (.alloc 40) ?_); refine wpList_alloc_own rfl 40 rfl zV zeroRV HO ?_; clear HO; intro w2 g2 HO)
  | fail)
 obtain ⟨q0, q3⟩ := HC1.out _ _ (HO.at 3 rfl)
 clear q3
 go_simp
 go_cut [19] from 12 to 19 (fun s19 wx => s19 = .bool false ∧ wx = w2)
 case first =>
  rcases Hkd.out with e | e
  ·rw [e] at q0
   go_wp2_with fail
   go_meet
   exact ⟨rfl, rfl⟩
  ·rw [e] at q0
   go_wp2_with fail
   go_meet
   exact ⟨rfl, rfl⟩
 obtain ⟨rfl, rfl⟩ := hcut
 clear q0
 go_upto_region 4 with (first
  | (refine wpList_build0 rfl 40 rfl _ rp_build ?_)
  | ((with_reducible refine atOp (.alloc 40) ?_); refine wpList_alloc_own rfl 40 rfl zV zeroRV HO ?_; clear HO; intro w3 g3 HO)
  | ((with_reducible refine atOp (.store 40 _ _) ?_); refine wpList_store_own 0 rfl 40 _ _ rfl _ 0 (cP 0 (.slice none 0 0)) rfl rfl HO rfl infoRV (Nat.le_refl _) (one_cP rfl) rfl ?_; clear HO; intro w4 HO)
  | fail)
 have HO1 := Yq (OwnR.start HO [rowC 67 14 (.slice none 0 0) []] (fun r hr => by simp only [List.mem_singleton] at hr; subst hr; exact ⟨rfl, rfl, rfl⟩))
 have qx : w4.cell? ⟨gx, 0, none⟩ = some (.int .i64 xk) := by rw [← Hxk.out]; exact (HO.at 2 rfl).cell HK0.out
 obtain ⟨_, q3⟩ := HC1.out _ _ (HO.at 4 rfl)
 clear HO
 go_wp2_with fail
 clear qx q3
 go_simp
 go_loopw [8, 28] (fun u i wr => ∃ (k : Nat) (d : Bool) (o : List (V × V)) (u3 : Value) (es : List (List Value)), k ≤ ns ∧ u = .bool d ∧ i = .int .i64 k ∧ Hid (OwnR w [(g3, cP 0 u3), (g2, zV), (gx, xc), (gn, nc), (g1, vc)] [rowC 67 14 u3 es] (fun _ => True) wr) ∧ Hid (PsR (fragE w F) o es) ∧ Hid (o ++ Val.gl Val.cmp n x (f.drop k) d = total)) (fun _ i _ => ns - (intOf i).toNat)
 case atStart => exact ⟨0, _, [], _, [], Nat.zero_le _, rfl, rfl, HO1, (by show PsR _ _ _; rw [PsR]), (by show [] ++ Val.gl Val.cmp n x (f.drop 0) _ = total; rw [Htot.out]; simp only [List.nil_append, List.drop_zero]; rfl)⟩
 case round =>
  obtain ⟨k, d, o, u3, es, hkn, rfl, rfl, HO, HFs, HE⟩ := hrel
  replace HO := HO.out
  have Heo : Hid (es.length = o.length) := HFs.out.len
  have Hol : Hid (o.length ≤ 200001) := by show _ ≤ _; have h1 := congrArg List.length HE.out; have h2 := Htl.out; simp only [List.length_append] at h1; omega
  have Hu3 : u3.oneCell' = true := own_one (HO.rows.own (rowC 67 14 u3 es) (by simp))
  by_cases hlt : k < ns
  ·have hks : k < fe.length := by rw [Hn.out]; exact hlt
   have hkf : k < f.length := by rw [← Hm1.out, Hn.out]; exact hlt
   obtain ⟨b0, o0, hb0, hidx, hcell⟩ := FlatC.at (n := ns) (cap := c1) (a := a1) (HX1.out.1.mono (fragE_le _ _)) (by decide) (i := k) hks Tryz.underlying38 sizeRP
   have hr : wr.rangeAt b0 o0 fe[k] := range_below hcell HO.below hb0
   obtain ⟨kc, exc, hx, rk, rx⟩ := HX1.out.2.at hkf hks
   have HXe : Hid (VR (fragE w F) f[k].2 exc) := rx
   have HKe : Hid (VR (fragE w F) f[k].1 kc) := rk
   have HLk := Yq rk.len
   have HL8 : Hid ((kc ++ exc).length = 14) := by show _ = _; rw [List.length_append, rk.len, rx.len]
   have H1 : Hid (∀ u ∈ kc ++ exc, u.oneCell' = true) := fun u hu => by
    rcases List.mem_append.1 hu with hu | hu
    ·exact rk.ones u hu
    ·exact rx.ones u hu
   rw [hx] at hr
   have HWc := Yq (Val.gl_cons (c := Val.cmp) n x hkf d)
   rw [HWc.out] at HE
   have hfk : f[k] = (f[k].1, f[k].2) := rfl
   rw [hfk] at HE
   clear hcell hx rx rk hfk HWc
   generalize f[k].1 = num at *
   generalize f[k].2 = ex at *
   generalize hrest : f.drop (k + 1) = rest at *
   have Hrest := Yq hrest; clear hrest
   clear hkf hks
   go_upto_region 8 with (first
   | ((with_reducible refine atOp (.load 67 _) ?_); refine wpList_load_seg rfl 67 _ rfl _ _ rfl _ _ hr Tryz.underlying67 rfl (iC infoRP HL8) ?_)
   | ((with_reducible refine atOp (.alloc 67) ?_); refine wpList_alloc_ownR rfl 67 rfl (zV ++ zV) zeroRP HO ?_; clear HO; intro w6 g10 HO)
   | ((with_reducible refine atOp (.store 67 _ _) ?_); refine wpList_store_ownR 0 rfl 67 _ _ rfl _ 0 (kc ++ exc) rfl rfl HO rfl (iC infoRP HL8) (by rw [HL8.out]; decide) H1.out (patch_whole' _ _ (by rw [HL8.out]; rfl)) ?_; clear HO hr hidx; intro wc0 HO)
   | fail)
   have HCm := Yq (fun w0 (hb : Below w.heap.size w w0) => rcmp_any num n kc nc w0 (HKe.out.mono ((fragE_le w F).trans (below_le hb))) (HXn.out.mono ((fragE_le w F).trans (below_le hb))))
   generalize hcc : Val.cmp num n = c at *
   have Hcc := Yq hcc; clear hcc
   have hv1 := (HO.own.at 0 rfl).range (p := []) (q := kc) (r := exc) (by simp) rfl
   have hv2 := (HO.own.at 4 rfl).whole
   go_upto_region 9 with (first
    | ((with_reducible refine atOp (.load 40 _) ?_); refine wpList_load_seg rfl 40 _ rfl _ _ rfl _ _ hv1 Tryz.underlying40 rfl (iC infoRV HLk) ?_)
    | ((with_reducible refine atOp (.load 40 _) ?_); refine wpList_load_seg rfl 40 _ rfl _ _ rfl _ _ hv2 Tryz.underlying40 rfl (iC infoRV HLn) ?_)
    | (go_at_call 26; (with_reducible refine (HCm.out _ HO.below).mono ?_); rintro e w7 ⟨rfl, hb⟩; replace HO := HO.call hb; clear hb hv1 hv2)
    | fail)
   go_simp
   go_cut [41] from 29 to 58 (fun st wx => st = .bool (!d && decide (0 ≤ c)) ∧ wx = w7)
   case first =>
    cases d
    ·go_wp2_with fail
     go_meet
     exact ⟨by simp, rfl⟩
    ·go_wp2_with fail
     go_meet
     exact ⟨rfl, rfl⟩
   case rest =>
    obtain ⟨rfl, rfl⟩ := hcut
    skip
    go_upto_if 41 with fail
    go_cut [8] from 29 to 58 (fun s8 wx => ∃ (u4 : Value) (es4 : List (List Value)) (o4 : List (V × V)), s8 = .bool (d || decide (0 ≤ c)) ∧ Hid (OwnR w ((g10, kc ++ exc) :: [(g3, cP 0 u4), (g2, zV), (gx, xc), (gn, nc), (g1, vc)]) [rowC 67 14 u4 es4] (fun _ => True) wx) ∧ Hid (PsR (fragE w F) o4 es4) ∧ Hid (o4 = o ++ (if d = false ∧ 0 ≤ c then [(n, x)] else [])))
    case first =>
     by_cases ht : d = false ∧ 0 ≤ c
     ·have htb : (!d && decide (0 ≤ c)) = true := by simp [ht.1, ht.2]
      have Ht := Yq ht
      clear ht
      rw [htb]
      have q4 : wc.cell? ⟨g3, 6, none⟩ = some u3 := (HO.own.at 1 rfl).cell rfl
      have hn5 : (es.length + 1) * 240 ≤ 140737488355328 := by rw [Heo.out]; have := Hol.out; omega
      have hvx := (HO.own.at 3 rfl).whole
      have hvn := (HO.own.at 4 rfl).whole
      go_wp2_with (first
       | ((with_reducible refine atOp (.load 40 _) ?_); refine wpList_load_seg rfl 40 _ rfl _ _ rfl _ _ hvx Tryz.underlying40 rfl (iC infoRV HLx) ?_)
       | ((with_reducible refine atOp (.load 40 _) ?_); refine wpList_load_seg rfl 40 _ rfl _ _ rfl _ _ hvn Tryz.underlying40 rfl (iC infoRV HLn) ?_)
       | ((with_reducible refine atOp (.build 67 _) ?_); refine wpList_bld2 rfl 67 0 1 _ _ rfl (.agg nc.toArray) (.agg xc.toArray) _ rfl rfl HBd.out ?_)
       | ((with_reducible refine atOp (.buildSlice 38 _ _) ?_); refine wpList_buildSlice1 rfl 38 67 _ rfl (nc ++ xc) (.agg (nc ++ xc).toArray) rfl Tryz.underlying38 (by rw [HLnx.out]; exact info2RP) (by rw [HLnx.out]; decide) (by rw [HLnx.out]; decide) rfl ?_)
       | (at_builtin; refine wpList_append_ownR (L := []) (M := []) T_RP rfl _ _ rfl (nc ++ xc) HO rfl rfl HLnx.out H1nx.out hn5 ?_; clear HO hvx hvn; intro u9 w9 HO hone9)
       | ((with_reducible refine atOp (.store 38 _ _) ?_); refine wpList_store_ownR1 (ds := cP 0 u9) 1 rfl 38 _ _ rfl _ 6 u9 rfl rfl HO rfl info1RP ?_ hone9 rfl ?_; (· show 6 + 1 ≤ 7; decide); (clear HO; intro w10 HO9))
       | fail)
      go_meet
      refine ⟨u9, es ++ [nc ++ xc], o ++ [(n, x)], ?_, ?_, ?_, ?_⟩
      ·simp [Ht.out.2]
      ·exact Yq (by rw [rowC_snoc]; exact HO9)
      ·exact Yq (PsR.snoc HFs.out HXn.out HXx.out)
      ·exact Yq (by rw [if_pos Ht.out])
     ·have htb : (!d && decide (0 ≤ c)) = false := by cases d <;> simp at ht ⊢; exact ht
      have Ht := Yq ht
      clear ht
      rw [htb]
      go_wp2_with fail
      go_meet
      refine ⟨u3, es, o, ?_, Yq HO, HFs, ?_⟩
      ·have h := Ht.out; cases d <;> simp at h ⊢; exact h
      ·exact Yq (by rw [if_neg Ht.out, List.append_nil])
    case rest =>
     obtain ⟨u4, es4, o4, rfl, HO4, HFs4, HE4⟩ := hcut
     replace HO := HO4.out
     clear HO4 HFs Heo Hol Hu3
     have Heo : Hid (es4.length = o4.length) := HFs4.out.len
     have Hol : Hid (o4.length ≤ 200001) := by show _ ≤ _; have h1 := congrArg List.length HE.out; have h2 := Htl.out; rw [← List.append_assoc, ← HE4.out] at h1; simp only [List.length_append] at h1; omega
     have Hu4 : u4.oneCell' = true := own_one (HO.rows.own (rowC 67 14 u4 es4) (by simp))
     by_cases he : c = 0
     ·have HRl : Hid (o4 ++ Val.gl Val.cmp n x rest (d || decide (0 ≤ c)) = total) := by show _ = _; rw [← HE.out, HE4.out, if_pos he]; simp
      have he2 : (c != 0) = false := by simp [he]
      have He := Yq he; clear he
      go_wp2_with fail
      go_roundw
      case rel => exact ⟨k + 1, _, o4, u4, es4, by omega, rfl, by go_num, Yq (HO.sub (.cons _ (List.Sublist.refl _))), HFs4, (by show o4 ++ Val.gl Val.cmp n x (f.drop (k + 1)) _ = total; rw [Hrest.out]; exact HRl.out)⟩
      case measure => simp [intOf]; omega
     ·have HRl : Hid (o4 ++ [(num, ex)] ++ Val.gl Val.cmp n x rest (d || decide (0 ≤ c)) = total) := by show _ = _; rw [← HE.out, HE4.out, if_neg he]; simp
      have Hol2 : Hid (o4.length + 1 ≤ 200001) := by show _ ≤ _; have h1 := congrArg List.length HRl.out; have h2 := Htl.out; simp only [List.length_append, List.length_cons, List.length_nil] at h1; omega
      have he2 : (c != 0) = true := by simp [he]
      have He := Yq he; clear he
      have q4 : wc.cell? ⟨g3, 6, none⟩ = some u4 := (HO.own.at 1 rfl).cell rfl
      have hn5 : (es4.length + 1) * 240 ≤ 140737488355328 := by rw [Heo.out]; have := Hol2.out; omega
      have hve := (HO.own.at 0 rfl).whole
      go_wp2_with (first
       | ((with_reducible refine atOp (.load 67 _) ?_); refine wpList_load_seg rfl 67 _ rfl _ _ rfl _ _ hve Tryz.underlying67 rfl (iC infoRP HL8) ?_)
       | ((with_reducible refine atOp (.buildSlice 38 _ _) ?_); refine wpList_buildSlice1 rfl 38 67 _ rfl (kc ++ exc) (.agg (kc ++ exc).toArray) rfl Tryz.underlying38 (by rw [HL8.out]; exact info2RP) (by rw [HL8.out]; decide) (by rw [HL8.out]; decide) rfl ?_)
       | (at_builtin; refine wpList_append_ownR (L := []) (M := []) T_RP rfl _ _ rfl (kc ++ exc) HO rfl rfl HL8.out H1.out hn5 ?_; clear HO hve; intro u9 w9 HO hone9)
       | ((with_reducible refine atOp (.store 38 _ _) ?_); refine wpList_store_ownR1 (ds := cP 0 u9) 1 rfl 38 _ _ rfl _ 6 u9 rfl rfl HO rfl info1RP ?_ hone9 rfl ?_; (· show 6 + 1 ≤ 7; decide); (clear HO; intro w10 HO9))
       | fail)
      go_roundw
      case rel => exact ⟨k + 1, _, o4 ++ [(num, ex)], u9, es4 ++ [kc ++ exc], by omega, rfl, by go_num, Yq (by rw [rowC_snoc]; exact HO9.sub (.cons _ (List.Sublist.refl _))), Yq (PsR.snoc HFs4.out HKe.out HXe.out), (by show (o4 ++ [(num, ex)]) ++ Val.gl Val.cmp n x (f.drop (k + 1)) _ = total; rw [Hrest.out]; exact HRl.out)⟩
      case measure => simp [intOf]; omega
  ·obtain rfl : k = ns := by omega
   have HEd : Hid (o ++ (if d then [] else [(n, x)]) = total) := by
    show _ = _; rw [← HE.out, List.drop_of_length_le (by rw [← Hm1.out, Hn.out]; exact Nat.le_refl _), Val.gl]
   clear HE
   go_upto_if 60 with fail
   go_cut [] from 29 to 68 (fun wx => ∃ (u4 : Value) (es4 : List (List Value)), Hid (OwnR w [(g3, cP 0 u4), (g2, zV), (gx, xc), (gn, nc), (g1, vc)] [rowC 67 14 u4 es4] (fun _ => True) wx) ∧ Hid (PsR (fragE w F) total es4))
   case first =>
    cases d with
    | false =>
     have HEd2 : Hid (o ++ [(n, x)] = total) := HEd.out
     clear HEd
     have q4 : wr.cell? ⟨g3, 6, none⟩ = some u3 := (HO.own.at 0 rfl).cell rfl
     have hn5 : (es.length + 1) * 240 ≤ 140737488355328 := by rw [Heo.out]; have := Hol.out; omega
     have hvx := (HO.own.at 2 rfl).whole
     have hvn := (HO.own.at 3 rfl).whole
     go_wp2_with (first
      | ((with_reducible refine atOp (.load 40 _) ?_); refine wpList_load_seg rfl 40 _ rfl _ _ rfl _ _ hvx Tryz.underlying40 rfl (iC infoRV HLx) ?_)
      | ((with_reducible refine atOp (.load 40 _) ?_); refine wpList_load_seg rfl 40 _ rfl _ _ rfl _ _ hvn Tryz.underlying40 rfl (iC infoRV HLn) ?_)
      | ((with_reducible refine atOp (.build 67 _) ?_); refine wpList_bld2 rfl 67 0 1 _ _ rfl (.agg nc.toArray) (.agg xc.toArray) _ rfl rfl HBd.out ?_)
      | ((with_reducible refine atOp (.buildSlice 38 _ _) ?_); refine wpList_buildSlice1 rfl 38 67 _ rfl (nc ++ xc) (.agg (nc ++ xc).toArray) rfl Tryz.underlying38 (by rw [HLnx.out]; exact info2RP) (by rw [HLnx.out]; decide) (by rw [HLnx.out]; decide) rfl ?_)
      | (at_builtin; refine wpList_append_ownR (L := []) (M := []) T_RP rfl _ _ rfl (nc ++ xc) HO rfl rfl HLnx.out H1nx.out hn5 ?_; clear HO hvx hvn; intro u9 w9 HO hone9)
      | ((with_reducible refine atOp (.store 38 _ _) ?_); refine wpList_store_ownR1 (ds := cP 0 u9) 0 rfl 38 _ _ rfl _ 6 u9 rfl rfl HO rfl info1RP ?_ hone9 rfl ?_; (· show 6 + 1 ≤ 7; decide); (clear HO; intro w10 HO9))
      | fail)
     go_meet
     exact ⟨u9, es ++ [nc ++ xc], Yq (by rw [rowC_snoc]; exact HO9), Yq (by rw [← HEd2.out]; exact PsR.snoc HFs.out HXn.out HXx.out)⟩
    | true =>
     have HEd2 : Hid (o = total) := by show _ = _; rw [← HEd.out]; simp
     clear HEd
     go_wp2_with fail
     go_meet
     exact ⟨u3, es, Yq HO, Yq (by rw [← HEd2.out]; exact HFs.out)⟩
   case rest =>
    obtain ⟨u4, es4, HO4, HFs4⟩ := hcut
    replace HO := HO4.out
    clear HO4 HFs Hu3
    have Hu4 : u4.oneCell' = true := own_one (HO.rows.own (rowC 67 14 u4 es4) (by simp))
    have hFl0 := FlatC.of_ownsU (HO.rows.own (rowC 67 14 u4 es4) (by simp)) (Nat.le_refl _) HFs4.out.sizes
    obtain ⟨a4, c4, rfl, hc1, hc2, _⟩ := hFl0.len
    have Hel : Hid (es4.length = total.length) := HFs4.out.len
    clear hFl0
    have q6 : wc.cell? ⟨g3, 6, none⟩ = some (.slice a4 es4.length c4) := (HO.own.at 0 rfl).cell rfl
    obtain ⟨m4, hm4⟩ : ∃ z, z = es4.length := ⟨_, rfl⟩
    rw [← hm4] at HO Hel q6 hc1 Hu4
    have Hm4 := Yq hm4
    clear hm4
    have hm4 : m4 ≤ 9223372036854775807 := by unfold maxLen at hc2; omega
    by_cases hz : m4 = 0
    ·have hz1 : decide (0 < m4) = false := decide_eq_false (by omega)
     have hz2 : decide ((0 : Int) < (m4 : Int)) = false := decide_eq_false (by omega)
     have Hz := Yq hz; clear hz
     go_wp2_with (first
     | ((with_reducible refine atOp (.load 40 _) ?_); refine wpList_load_ownR 0 rfl 40 _ rfl _ rfl HO rfl _ Tryz.underlying40 rfl infoRV ?_)
     | ((with_reducible refine atOp (.store 40 _ _) ?_); refine wpList_store_ownR 1 rfl 40 _ _ rfl _ 0 (cP 0 (.slice a4 m4 c4)) rfl rfl HO rfl infoRV (Nat.le_refl _) (one_cP Hu4) rfl ?_; clear HO; intro wE HO)
     | fail)
     have hes : es4 = [] := List.eq_nil_of_length_eq_zero (by rw [← Hm4.out]; exact Hz.out)
     have hFl := FlatC.of_ownsU (v := .slice a4 m4 c4) (es := []) (by have h := HO.rows.own (⟨67, 14, .slice a4 m4 c4, m4, es4.flatten⟩ : ORow) (by simp [rowC, Hm4.out]); rw [hes, Hz.out] at h; rw [Hz.out]; exact h) (Nat.le_refl _) (s := 14) (by simp)
     refine bodyPost_ret (v := .agg (cP 0 (.slice a4 m4 c4)).toArray) ?_ rfl ⟨_, rfl, (by unfold mkP; rw [if_pos (by rw [← Hel.out]; exact Hz.out)]; exact VR.map0 (hFl.mono (fragU_F wE HFw.out))), HO.below⟩
     exact results_blk rfl _ _ g2 (cP 0 (.slice a4 m4 c4)) rfl (HO.own.at 1 rfl) _ Tryz.underlying40 rfl infoRV
    ·have hz1 : decide (0 < m4) = true := decide_eq_true (by omega)
     have hz2 : decide ((0 : Int) < (m4 : Int)) = true := decide_eq_true (by omega)
     have Hz := Yq hz; clear hz
     go_wp2_with (first
     | ((with_reducible refine atOp (.load 40 _) ?_); refine wpList_load_ownR 0 rfl 40 _ rfl _ rfl HO rfl _ Tryz.underlying40 rfl infoRV ?_)
     | ((with_reducible refine atOp (.store 3 _ _) ?_); refine wpList_store_ownR1 (ds := cP 5 (.slice a4 m4 c4)) 0 rfl 3 _ _ rfl _ 0 (.int .i64 5) rfl rfl HO rfl oinfI ?_ rfl rfl ?_; (· show 0 + 1 ≤ 7; decide); (clear HO q6; intro w11 HO))
     | ((with_reducible refine atOp (.store 40 _ _) ?_); refine wpList_store_ownR 1 rfl 40 _ _ rfl _ 0 (cP 5 (.slice a4 m4 c4)) rfl rfl HO rfl infoRV (Nat.le_refl _) (one_cP Hu4) rfl ?_; clear HO; intro wE HO)
     | fail)
     have hFl := FlatC.of_ownsU (v := .slice a4 m4 c4) (es := es4) (by have h := HO.rows.own (⟨67, 14, .slice a4 m4 c4, m4, es4.flatten⟩ : ORow) (by simp [rowC, Hm4.out]); rw [← Hm4.out]; exact h) (Nat.le_refl _) HFs4.out.sizes
     refine bodyPost_ret (v := .agg (cP 5 (.slice a4 m4 c4)).toArray) ?_ rfl ⟨_, rfl, (by unfold mkP; rw [if_neg (by rw [← Hel.out]; exact Hz.out)]; exact VR.map5 (hFl.mono (fragU_F wE HFw.out)) (HFs4.out.mono (belowE HO.below (fun _ h => .inl h)))), HO.below⟩
     exact results_blk rfl _ _ g2 (cP 5 (.slice a4 m4 c4)) rfl (HO.own.at 1 rfl) _ Tryz.underlying40 rfl infoRV
open Val (V E cmp right noneV partB bareE eright esome stepRight esm esmF esmS esmK efields esteps ekeys v0)
def Val.sameB (a b : V) : Bool := decide (cmp a b = 0)
def Val.ekeysAll (ks : List (V × E)) : Bool := decide (0 < ks.length) && ekeys none ks
theorem Val.eright_all (x : E) : eright x = (x.bare && (if x.kind = 0 then true else if x.kind = 1 then right x.old && (right x.new && !Val.sameB x.old x.new) else if x.kind = 2 then Val.efieldsAll x else
  if x.kind = 3 then esteps 0 false x.steps else if x.kind = 4 then Val.ekeysAll x.keys else false)) := by
 cases x
 rw [eright]; rfl
theorem eright_step (N : Nat) (ih : ERightAt N) : ERightAt (N + 1) := by
 intro x xc w hs hz hx
 have hsz := esm_sum hz
 have HR := Yq (fun (wx : World) (hb : Below w.heap.size w wx) => ebare_any x xc wx (hx.mono (below_le hb)) hsz)
 have HF := Yq (fun (wx : World) (hb : Below w.heap.size w wx) => efields_at N ih x xc wx (fun e he => by have := Val.esize_field (x := x) (m := e.1) (e := e.2) he; omega) hz (hx.mono (below_le hb)))
 have HL := Yq hx.shape.len
 have Hp := Yq (Val.eright_all x)
 obtain ⟨k, o, n, f, r, ro, rn, s, ks⟩ := x
 rw [esm] at hz
 rw [ER] at hx
 obtain ⟨oc, nc, fv, sv, kv, fe, se, ke, hxc, _, ⟨h3, h4⟩, ⟨h5, h6, h7⟩, h8, h9, h10⟩ := hx
 have HS := Yq (fun (wx : World) (hb : Below w.heap.size w wx) => esteps_at N ih s se sv wx (fun e he => by have := Val.esize_step (x := .mk k o n f r ro rn s ks) (k := e.1) (c := e.2.1) (v := e.2.2.1) (e := e.2.2.2) he; omega) hz.2.2.1 (h6.mono (below_le hb)) (h9.mono (below_le hb)))
 have hK : ∀ (wx : World), Below w.heap.size w wx → Calls Tryz.prog 31 #[kv] wx fun e w' => e = .returned (.bool (Val.ekeysAll ks)) ∧ Below wx.heap.size wx w' := (fun (wx : World) (hb : Below w.heap.size w wx) => ekeys_at N ih ks ke kv wx (fun e he => by have := Val.esize_key (x := .mk k o n f r ro rn s ks) (k := e.1) (e := e.2) he; omega) hz.2.2.2 (h7.mono (below_le hb)) (h10.mono (below_le hb)))
 have HVo := Yq (fun (wx : World) (hb : Below w.heap.size w wx) => right_any o oc wx (h3.mono (below_le hb)))
 have HVn := Yq (fun (wx : World) (hb : Below w.heap.size w wx) => right_any n nc wx (h4.mono (below_le hb)))
 have hVs : ∀ (wx : World), Below w.heap.size w wx → Calls Tryz.prog 14 #[.agg oc.toArray, .agg nc.toArray] wx fun e w' => e = .returned (.bool (Val.sameB o n)) ∧ Below wx.heap.size wx w' := (fun (wx : World) (hb : Below w.heap.size w wx) => same_any o n oc nc wx (h3.mono (below_le hb)) (h4.mono (below_le hb)))
 have HLo := Yq h3.len
 have HK := Yq hK; have HVs := Yq hVs
 have HLn := Yq h4.len
 obtain ⟨a1, c1, rfl, _⟩ := h5.len
 obtain ⟨a2, c2, rfl, _⟩ := h6.len
 obtain ⟨a3, c3, rfl, _⟩ := h7.len
 have HA := Yq (fun (w2 : World) (g : Nat) (hB : Blk w2 g xc) => EdAt.of h3.len h4.len (hxc ▸ hB))
 have HW := Yq (fun (w2 : World) (g : Nat) (hB : Blk w2 g xc) => hB.whole)
 clear hxc h3 h4 h5 h6 h7 h8 h9 h10 hsz hs hz ih hK hVs
 simp only [Val.E.kind, Val.E.old, Val.E.new, Val.E.steps, Val.E.keys] at Hp
 generalize (E.mk k o n f r ro rn s ks).bare = bb at *
 generalize right o = p1 at *
 generalize right n = p2 at *
 generalize Val.sameB o n = cm at *
 generalize Val.efieldsAll (E.mk k o n f r ro rn s ks) = p4 at *
 generalize esteps 0 false s = p5 at *
 generalize Val.ekeysAll ks = p6 at *
 go_enter Tryz.func17, Tryz.ntmps17
 go_wp2_with (first
  | (refine wpList_box_lay rfl _ _ rfl _ rfl ?_; (intro w0 g hg hB0 hb0; obtain ⟨r1, r8, q0, q15, q16, q17, q18, q19, q20⟩ := HA.out w0 g hB0; have r0 := HW.out w0 g hB0; have hz0 := hB0.lt))
  | (refine wpList_load_seg rfl 32 _ rfl _ _ rfl _ _ (by assumption) Tryz.underlying32 rfl (iC infoE HL) ?_)
  | (refine wpList_load_seg rfl 27 _ rfl _ _ rfl _ _ (by assumption) Tryz.underlying27 rfl ?_ ?_; (· first | exact iC infoV HLo | exact iC infoV HLn))
  | (go_at_call 28; refine (HR.out _ (by assumption)).mono ?_; rintro e w1 ⟨rfl, hb1⟩; replace hb0 := hb0.trans (hb1.mono hb0.size); replace hB0 := hB0.below hb1 hz0; replace hz0 := hB0.lt; clear hb1 r0 r1 r8 q0 q15 q16 q17 q18 q19 q20; obtain ⟨r1, r8, q0, q15, q16, q17, q18, q19, q20⟩ := HA.out _ _ hB0; have r0 := HW.out _ _ hB0)
  | (go_at_call 18; (first | (with_reducible refine (HVo.out _ (by assumption)).mono ?_) | (with_reducible refine (HVn.out _ (by assumption)).mono ?_)); rintro e w1 ⟨rfl, hb1⟩; replace hb0 := hb0.trans (hb1.mono hb0.size); replace hB0 := hB0.below hb1 hz0; replace hz0 := hB0.lt; clear hb1 r0 r1 r8 q0 q15 q16 q17 q18 q19 q20; obtain ⟨r1, r8, q0, q15, q16, q17, q18, q19, q20⟩ := HA.out _ _ hB0; have r0 := HW.out _ _ hB0)
  | (go_at_call 14; refine (HVs.out _ (by assumption)).mono ?_; rintro e w1 ⟨rfl, hb1⟩; replace hb0 := hb0.trans (hb1.mono hb0.size); clear hb1)
  | (go_at_call 29; refine (HF.out _ (by assumption)).mono ?_; rintro e w1 ⟨rfl, hb1⟩; replace hb0 := hb0.trans (hb1.mono hb0.size); clear hb1)
  | (go_at_call 30; refine (HS.out _ (by assumption)).mono ?_; rintro e w1 ⟨rfl, hb1⟩; replace hb0 := hb0.trans (hb1.mono hb0.size); clear hb1)
  | (go_at_call 31; refine (HK.out _ (by assumption)).mono ?_; rintro e w1 ⟨rfl, hb1⟩; replace hb0 := hb0.trans (hb1.mono hb0.size); clear hb1))
 all_goals
  go_ret
  refine ⟨ret_bool ?_, hb0⟩
  rw [Hp.out]
  clear HR HF HS HK HVo HVn HVs HA HW Hp hb0 HL HLo HLn
  clear hB0 hz0 hg
  simp_all
theorem eright_all : ∀ N, ERightAt N
 | 0 => fun x xc w hs => absurd hs (Nat.not_lt_zero _)
 | N + 1 => eright_step N (eright_all N)
theorem eright_any (x : E) (xc : List Value) (w : World) (hz : esm x) (hx : ER (frag w) x xc) :
  Calls Tryz.prog 17 #[.agg xc.toArray] w fun e w' => e = .returned (.bool (eright x)) ∧ Below w.heap.size w w' :=
 eright_all _ x xc w (Nat.lt_succ_self _) hz hx
end Go.Proofs.YtebekgdjknenlaaGreatDoor
