/- redlineref23.do, walked: Into. -/
import Derived.Test.YtebekgdjknenlaaGreatDoorGpBA
set_option maxRecDepth 100000
set_option maxHeartbeats 8000000
set_option linter.unusedVariables false
set_option linter.unusedSimpArgs false
namespace Go.Proofs.YtebekgdjknenlaaGreatDoor
open Go.RowKit
open Val (V E right cmp eright ado adoF adoS adoK Res avalue esm esmF esmS esmK vmx esz eszF eszS eszK efields esteps ekeys get find withV putV mkM mkP mkL partB setRest headKind KI KP KeysOf allF allS allK)
theorem fRefDo2A13_154 {P : Program} {M : Region.Mode} {O : Array Oper} {Q : Exit → Act → World → Prop} {Y Z : World → Prop} {f F : Nat} {a b c e g i j k l m n o p : Bool} {q r s t u v x y z a0 a1 a2 a3 a4 a5 a6 a7 a8 a9 aA aB aC aD aE aF aG aH aI aJ aK aL aM aN aO aP aQ aR aS aT aU aV aW aX aY aZ b0 b1 b2 b3 b4 b5 b6 b7 b8 b9 bA bB bC bD bE bF bG bH bI bJ bK bL bM bN bO bP bQ bR bS bT bU bV bW bX bY bZ c0 c1 c2 c3 c4 c5 c6 c7 c8 c9 cA cB cC cD cE cF cG cH cI cJ cK cL cM cN cO cP cQ cR cS cT cU cV cW cX cY cZ e0 e1 e2 e3 e4 e5 e6 e7 e8 e9 eA eB eC eD eE eF eG eH eI eJ eK eL eM eN eO eP eQ eR eS eT eU eV eW eX eY eZ g0 : Value} {d} {w : World} (h : wpAnyG P M O Q Y Z f F #[a,b,c,e,g,i,j,k,l,m,n,o,p] ⟨#[q,r,s,t,u,v,x,y,z,a0,a1,a2,a3,a4,a5,a6,a7,a8,a9,aA,aB,aC,aD,aE,aF,aG,aH,aI,aJ,aK,aL,aM,aN,aO,aP,aQ,aR,aS,aT,aU,aV,aW,aX,aY,aZ,b0,b1,b2,b3,b4,b5,b6,b7,b8,b9,bA,bB,bC,bD,bE,bF,bG,bH,bI,bJ,bK,bL,bM,bN,bO,bP,bQ,bR,bS,bT,bU,bV,bW,bX,bY,bZ,c0,c1,c2,c3,c4,c5,c6,c7,c8,c9,cA,cB,cC,cD,cE,cF,cG,cH,cI,cJ,cK,cL,cM,cN,cO,cP,cQ,cR,cS,cT,cU,cV,cW,cX,cY,cZ,e0,e1,e2,e3,e4,e5,e6,e7,e8,e9,eA,eB,eC,eD,eE,eF,eG,eH,eI,eJ,eK,eL,eM,eN,eO,eP,eQ,eR,eS,eT,eU,eV,eW,eX,eY,eZ,g0],d⟩ w) : wpAnyG P M O Q Y Z f F #[a,b,c,e,g,i,j,k,l,m,n,o,p] ⟨#[q,r,s,t,u,v,x,y,z,a0,a1,a2,a3,a4,a5,a6,a7,a8,a9,aA,aB,aC,aD,aE,aF,aG,aH,aI,aJ,aK,aL,aM,aN,aO,aP,aQ,aR,aS,aT,aU,aV,aW,aX,aY,aZ,b0,b1,b2,b3,b4,b5,b6,b7,b8,b9,bA,bB,bC,bD,bE,bF,bG,bH,bI,bJ,bK,bL,bM,bN,bO,bP,bQ,bR,bS,bT,bU,bV,bW,bX,bY,bZ,c0,c1,c2,c3,c4,c5,c6,c7,c8,c9,cA,cB,cC,cD,cE,cF,cG,cH,cI,cJ,cK,cL,cM,cN,cO,cP,cQ,cR,cS,cT,cU,cV,cW,cX,cY,cZ,e0,e1,e2,e3,e4,e5,e6,e7,e8,e9,eA,eB,eC,eD,eE,eF,eG,eH,eI,eJ,eK,eL,eM,eN,eO,eP,eQ,eR,eS,eT,eU,eV,eW,eX,eY,eZ,g0],d⟩ w := h
theorem rdo_2x (F : List (Option Nat)) (e : E) (v : V) (ec vc : List Value) (w : World) (hk2 : e.kind = 2) (hk : ¬ v.kind = 3) (he : ER (fragE w F) e ec) (hv : VR (fragE w F) v vc) :
  Calls Tryz.prog 22 #[.agg ec.toArray, .agg vc.toArray] w (RetN F w (.bad 13)) := by
 have HK0 : Hid (ec[0]? = some (.int .i64 2)) := Yq (by rw [← hk2]; exact he.k0)
 have HV0 := Yq hv.k0
 have d1 : (v.kind == 3) = false := by simpa using hk
 generalize v.kind = kd at *
 clear he hv hk2
 go_enter Tryz.func22, Tryz.ntmps22
 have HO := Own.nil w
 go_upto_region 2 with (first
  | ((with_reducible refine atOp (.box 52 _) ?_); refine wpList_box_own rfl 52 _ rfl ec rfl HO ?_; clear HO; intro w1 g1 HO)
  | ((with_reducible refine atOp (.box 40 _) ?_); refine wpList_box_own rfl 40 _ rfl vc rfl HO ?_; clear HO; intro w1 gx HO)
  | (refine wpList_build0 rfl 40 rfl _ rp_build ?_; refine wpList_alloc_own rfl 40 rfl zV zeroRV HO ?_; clear HO; intro w3 g6 HO)
  | ((with_reducible refine atOp (.alloc 40) ?_); refine wpList_alloc_own rfl 40 rfl zV zeroRV HO ?_; clear HO; intro w2 g4 HO)
  | ((with_reducible refine atOp (.store 40 _ _) ?_); refine wpList_store_own 0 rfl 40 _ _ rfl _ 0 (cP 0 (.slice none 0 0)) rfl rfl HO rfl infoRV (Nat.le_refl _) (one_cP rfl) rfl ?_; clear HO; intro w4 HO)
  | fail)
 have k0 := (HO.at 3 rfl).cell HK0.out
 have v0 := (HO.at 2 rfl).cell HV0.out
 have hnn := (HO.at 0 rfl).whole
 go_wp2_with (first
  | ((with_reducible refine atOp (.load 40 _) ?_); refine wpList_load_seg rfl 40 _ rfl _ _ rfl _ _ hnn Tryz.underlying40 rfl infoRV ?_)
  | ((with_reducible refine atOp (.store 40 _ _) ?_); refine wpList_store_own 1 rfl 40 _ _ rfl _ 0 (cP 0 (.slice none 0 0)) rfl rfl HO rfl infoRV (Nat.le_refl _) (one_cP rfl) rfl ?_; clear HO; intro w6 HO)
  | fail)
 refine bodyPost_ret (v := .tuple #[.agg zV.toArray, .int .i64 13]) ?_ rfl (RetN.of HO.below ⟨rfl, rfl⟩)
 exact results2_blk rfl _ _ g4 zV _ rfl rfl (HO.at 1 rfl) _ Tryz.underlying40 rfl infoRV
theorem rdo_2g (N : Nat) (ih : RDoAt N) (F : List (Option Nat)) (o nw : V) (fs : List (Int × E)) (r : Bool) (ro rn : ByteArray) (s : List (Int × Int × V × E)) (ks : List (V × E)) (v : V) (ec0 vc : List Value) (w : World) (hF : ∀ k, some k ∈ F → k < w.heap.size)
  (hs : ∀ e ∈ fs, SizeOf.sizeOf e.2 < N) (hst : allF fs) (hef : efields 0 fs = true) (hsm : esmF fs) (hvr : right v = true) (hbd : vmx v + eszF fs ≤ 90000) (he : ER (fragE w F) (.mk 2 o nw fs r ro rn s ks) ec0) (hv : VR (fragE w F) v vc) (hk : v.kind = 3) :
  Calls Tryz.prog 22 #[.agg ec0.toArray, .agg vc.toArray] w (RetN F w (Val.intoT fs r ro rn v)) := by
 have HIO := Yq (show (IntoInv fs v 0 v ∧ IntoOld fs v 0 v) ∧ v.rest = v.rest from ⟨⟨IntoInv.start hvr hk hbd, IntoOld.start fs v⟩, rfl⟩)
 have Hv := Yq hv; have HLv := Yq hv.len; have HOv := Yq hv.ones
 have HV0 : Hid (vc[0]? = some (.int .i64 3)) := Yq (by rw [← hk]; exact hv.k0)
 have HV4 := Yq hv.rest4
 have Hvr := Yq (And.intro hvr hk)
 rw [ER] at he
 obtain ⟨oc, nc, fv, sv, kv, fe, se, ke, hxc, hsz2, ⟨h3, h4⟩, ⟨h5, h6, h7⟩, h8, h9, h10⟩ := he
 obtain ⟨a1, c1, e1, b1, b2, b3⟩ := h5.len
 obtain ⟨a2, c2, e2, d1, d2, d3⟩ := h6.len
 obtain ⟨a3, c3, e3, p1, p2, p3⟩ := h7.len
 subst e1 e2 e3
 have HX1 : Hid (FlatC 22 (fragE w F) (.slice a1 fe.length c1) fe ∧ EFs (fragE w F) fs fe) := ⟨h5, h8⟩
 have Hm1 := Yq h8.len
 have HSZ := Yq hsz2
 have HC := Yq (fun (w2 : World) (g : Nat) (hB : Blk w2 g ec0) => EdAt.of h3.len h4.len (hxc ▸ hB))
 obtain ⟨ns, hn⟩ : ∃ z, z = fe.length := ⟨_, rfl⟩
 rw [← hn] at HC HX1
 have Hn := Yq hn.symm
 have hns : ns ≤ 9223372036854775807 := by rw [hn]; unfold maxLen at b2; omega
 have HFw := Yq hF; have HS := Yq hs; have HST := Yq hst; have HEF := Yq hef; have HM := Yq hsm
 obtain ⟨R0, hR0⟩ : ∃ z, z = Val.intoT fs r ro rn v := ⟨_, rfl⟩
 rw [← hR0]
 have HR0 := Yq hR0
 clear hxc hsz2 h3 h4 h5 h6 h7 h8 h9 h10 b1 b2 b3 d1 d2 d3 p1 p2 p3 hF hn hs hst hef hsm hvr hbd hv hk hR0
 go_enter Tryz.func22, Tryz.ntmps22
 have HO := Own.nil w
 go_upto_region 2 with (first
  | ((with_reducible refine atOp (.box 52 _) ?_); refine wpList_box_own rfl 52 _ rfl ec0 rfl HO ?_; clear HO; intro w1 g1 HO)
  | ((with_reducible refine atOp (.box 40 _) ?_); refine wpList_box_own rfl 40 _ rfl vc rfl HO ?_; clear HO; intro w1 gx HO)
  | (refine wpList_build0 rfl 40 rfl _ rp_build ?_; refine wpList_alloc_own rfl 40 rfl zV zeroRV HO ?_; clear HO; intro w3 g6 HO)
  | ((with_reducible refine atOp (.alloc 40) ?_); refine wpList_alloc_own rfl 40 rfl zV zeroRV HO ?_; clear HO; intro w2 g4 HO)
  | ((with_reducible refine atOp (.store 40 _ _) ?_); refine wpList_store_own 0 rfl 40 _ _ rfl _ 0 (cP 0 (.slice none 0 0)) rfl rfl HO rfl infoRV (Nat.le_refl _) (one_cP rfl) rfl ?_; clear HO; intro w4 HO)
  | fail)
 have HOF := OwnF.start HO F [] (fun r hr => by cases hr)
 clear HO
 have HO := HOF
 clear HOF
 have k0 := (HC.out _ _ (HO.at 3 rfl)).c0
 have qv0 := (HO.at 2 rfl).cell HV0.out
 have hvv := (HO.at 2 rfl).whole
 go_wp2_with (first
  | ((with_reducible refine atOp (.load 40 _) ?_); refine wpList_load_seg rfl 40 _ rfl _ _ rfl _ _ hvv Tryz.underlying40 rfl (iC infoRV HLv) ?_)
  | ((with_reducible refine atOp (.alloc 40) ?_); refine wpList_alloc_ownF rfl 40 rfl zV zeroRV HO ?_; clear HO k0 qv0 hvv; intro w4 g7 HO)
  | ((with_reducible refine atOp (.store 40 _ _) ?_); refine wpList_store_ownF 0 rfl 40 _ _ rfl _ 0 (vc) rfl rfl HO rfl (iC infoRV HLv) (by rw [HLv.out]; decide) HOv.out (patch_whole' _ _ (by rw [HLv.out]; rfl)) ?_; clear HO; intro w5 HO; have q15 := (HC.out _ _ (HO.at 4 rfl)).c15)
  | fail)
 clear q15
 go_simp
 go_loopw [40] (fun i wr => ∃ (k : Nat) (y : V) (yc : List Value), k ≤ ns ∧ i = .int .i64 k ∧ Hid ((IntoInv fs v k y ∧ IntoOld fs v k y) ∧ y.rest = v.rest) ∧ Hid (OwnF F w [(g7, yc), (g6, cP 0 (.slice none 0 0)), (g4, zV), (gx, vc), (g1, ec0)] [] (fun h => VR h y yc) wr)) (fun i _ => ns - (intOf i).toNat)
 case atStart => exact ⟨0, v, vc, Nat.zero_le _, rfl, ⟨HIO.out.1, rfl⟩, Yq (HO.read VR.monoF (fun _ => Hv.out.mono HO.args))⟩
 case round =>
  clear HO
  obtain ⟨k, y, yc, hkn, rfl, HI, HO2⟩ := hrel
  have HO := HO2.out
  clear HO2 HIO
  by_cases hlt : k < ns
  ·have hks : k < fe.length := by rw [Hn.out]; exact hlt
   have hkf : k < fs.length := by rw [← Hm1.out]; exact hks
   obtain ⟨b0, o0, hb0, hidx, hcell⟩ := FlatC.at (n := ns) (cap := c1) (a := a1) (HX1.out.1.mono (fragE_le _ _)) (by decide) (i := k) hks Tryz.underlying48 sizeREF
   have hr : wr.rangeAt b0 o0 fe[k] := range_below hcell HO.below hb0
   obtain ⟨ec, hx, rx⟩ := HX1.out.2.at hkf hks
   rw [hx] at hr
   have HLx := Yq rx.len
   have HL : Hid ((Value.int .i64 fs[k].1 :: ec).length = 22) := by show _ = _; simp [rx.len]
   have H1 := Yq (one_cons (k := fs[k].1) rx.ones)
   have hgo : get y fs[k].1 = get v fs[k].1 := HI.out.1.2 k hkf (Nat.le_refl _)
   have ha := HST.out _ (List.getElem_mem hkf)
   have HbadK := Yq (fun b (hR : ado fs[k].2 (get v fs[k].1) = .bad b) => (show R0 = .bad b from by rw [HR0.out]; exact HI.out.1.1.bad hkf (by rw [hgo]; exact hR) r ro rn))
   have HokK := Yq (fun z (hR : ado fs[k].2 (get v fs[k].1) = .ok z) => (show (IntoInv fs v (k + 1) (withV y fs[k].1 z) ∧ IntoOld fs v (k + 1) (withV y fs[k].1 z)) ∧ (withV y fs[k].1 z).rest = v.rest from ⟨⟨HI.out.1.1.step hkf HST.out (by rw [hgo]; exact hR), HI.out.1.2.step HI.out.1.1 hkf HST.out HEF.out⟩, by rw [Val.with_rest]; exact HI.out.2⟩))
   have hsz := HI.out.1.1.sizes hkf
   rw [hgo] at hsz
   have HGr := Yq (And.intro (And.intro Hvr.out.1 ha.1) (And.intro (And.intro HI.out.1.1.2.1 HI.out.1.1.2.2.1) (Nat.le_of_lt hsz.2)))
   have HDr := Yq (And.intro (HS.out _ (List.getElem_mem hkf)) (And.intro ha.2 (And.intro (Val.right_get Hvr.out.1 Hvr.out.2 ha.1) (And.intro (Val.esmF_at HM.out _ (List.getElem_mem hkf)) hsz.1))))
   have HX : Hid (ER (fragE w F) fs[k].2 ec) := rx
   have Hbne := Yq (Val.ado_bad fs[k].2 (get v fs[k].1))
   clear hcell hx rx ha hgo hsz
   generalize fs[k].1 = num at *
   generalize fs[k].2 = x1 at *
   clear hkf hks
   go_wp2_with (first
    | ((with_reducible refine atOp (.load 76 _) ?_); refine wpList_load_seg rfl 76 _ rfl _ _ rfl _ _ hr Tryz.underlying76 rfl (iC infoREF HL) ?_)
    | ((with_reducible refine atOp (.alloc 76) ?_); refine wpList_alloc_ownF rfl 76 rfl (.int .i64 0 :: zE) zeroREF HO ?_; clear HO; intro w4 g9 HO)
    | ((with_reducible refine atOp (.store 76 _ _) ?_); refine wpList_store_ownF 0 rfl 76 _ _ rfl _ 0 (.int .i64 num :: ec) rfl rfl HO rfl (iC infoREF HL) (by rw [HL.out]; decide) H1.out (patch_whole' _ _ (by rw [HL.out]; rfl)) ?_; clear HO hr hidx; intro w5 HO)
    | fail)
   go_simp
   go_cut [10, 11] from 41 to 63 (fun v10 v11 wx => DoCut F w ((g9, .int .i64 num :: ec) :: [(g7, yc), (g6, cP 0 (.slice none 0 0)), (g4, zV), (gx, vc), (g1, ec0)]) [] (fun h => VR h y yc) (ado x1 (get v num)) v10 v11 wx)
   case first =>
    replace HO : OwnF F w ((g9, .int .i64 num :: ec) :: [(g7, yc), (g6, cP 0 (.slice none 0 0)), (g4, zV), (gx, vc), (g1, ec0)]) [] (fun h => VR h y yc) w5.drew := HO.drew
    refine wp_region_G 11 (fun _ => True) (fun w' => Own w ((g9, .int .i64 num :: ec) :: [(g7, yc), (g6, cP 0 (.slice none 0 0)), (g4, zV), (gx, vc), (g1, ec0)]) w') (by kernel_rfl) trivial HO.own (fun _ => ?_)
    refine wpAnyG_take (i := 0) (v := .pointer (some ⟨g9, 1, none⟩)) rfl (by kernel_rfl) (fun _ _ _ h => h) (.inl ⟨by rfl, fun w hw => by go_simp⟩) (mkG HO.own) ?_
    refine fRefDo2A13_154 ?_
    refine wpAnyG_take (i := 1) (v := .agg ec.toArray) rfl (by kernel_rfl) (fun _ _ _ h => h) (yieldsIf_load_mid (by rfl) 52 _ rfl g9 1 (by go_simp) ec _ (fun w h => (h.2.at 0 rfl).range (p := [.int .i64 num]) (q := ec) (r := []) (by simp) rfl) Tryz.underlying52 rfl (iC oREi HLx)) (mkG HO.own) ?_
    refine fRefDo2A13_154 ?_
    refine wpAnyG_take (i := 2) (v := .agg vc.toArray) rfl (by kernel_rfl) (fun _ _ _ h => h) (yieldsIf_load_mid (by rfl) 40 _ rfl gx 0 (by go_simp) vc _ (fun w h => (h.2.at 4 rfl).whole) Tryz.underlying40 rfl (iC infoRV HLv)) (mkG HO.own) ?_
    refine fRefDo2A13_154 ?_
    refine wpAnyG_take (i := 3) (v := .pointer (some ⟨g9, 0, none⟩)) rfl (by kernel_rfl) (fun _ _ _ h => h) (.inl ⟨by rfl, fun w hw => by go_simp⟩) (mkG HO.own) ?_
    refine fRefDo2A13_154 ?_
    refine wpAnyG_take (i := 4) (v := .int .i64 num) rfl (by kernel_rfl) (fun _ _ _ h => h) (.inl ⟨by rfl, fun w hw => by have hc := (hw.2.at 0 rfl).cell (o := 0) (u := .int .i64 num) rfl; clear hw; go_simp⟩) (mkG HO.own) ?_
    refine fRefDo2A13_154 ?_
    refine wpAnyG_ready (rs := [5, 10]) (by kernel_rfl) (by simp) ?_
    refine AllReadyG.plain rfl rfl (fun K hK => ?_) (AllReadyG.plain rfl rfl (fun K hK => ?_) AllReadyG.nil)
    ·go_simp
     refine (rget_ok (exF F _ _) v num vc _ (HO.lt HFw.out) HGr.out.1.1 HGr.out.1.2 (Hv.out.mono HO.args)).mono ?_
     rintro e w6 ⟨gc, rfl, hy, hbq⟩
     replace HO := (HO.call hbq).read (MonoF.and HO.mono (VR.monoF (x := (get v num)) (c := gc))) (fun hr => ⟨hr, hy⟩)
     clear hy hbq
     refine hK.out _ _ (mkG HO.own) (fun _ => ?_)
     clear hK
     refine fRefDo2A13_154 ?_
     refine wpAnyG_ready (rs := [6, 10]) (by kernel_rfl) (by simp) ?_
     refine AllReadyG.plain rfl rfl (fun K hK => ?_) (AllReadyG.plain rfl rfl (fun K hK => ?_) AllReadyG.nil)
     ·go_simp
      refine (ih (exF F _ _) x1 (get v num) ec gc _ (HO.lt HFw.out) HDr.out.1 HDr.out.2.1 HDr.out.2.2.1 HDr.out.2.2.2.1 HDr.out.2.2.2.2 (HX.out.mono HO.args) HO.rd.2).mono ?_
      rintro e w7 hR
      obtain ⟨cs, n, rfl, hcl, hc1, hbq, hrv⟩ := RetN.form hR
      replace HO := (HO.call hbq).read (MonoF.and HO.mono (RVn.monoF (r := (ado x1 (get v num))) (cs := cs) (n := n))) (fun hr => ⟨hr, hrv⟩)
      have Hcl := Yq hcl; have Hc1 := Yq hc1; clear hR hrv hcl hc1 hbq
      refine hK.out _ _ (mkG HO.own) (fun _ => ?_)
      clear hK
      refine fRefDo2A13_154 ?_
      refine wpAnyG_take (i := 7) (v := .tuple #[.agg cs.toArray, .int .i64 n]) rfl (by kernel_rfl) (fun _ _ _ h => h) (.inl ⟨by rfl, fun w hw => by go_simp⟩) (mkG HO.own) ?_
      refine fRefDo2A13_154 ?_
      refine wpAnyG_take (i := 8) (v := .agg cs.toArray) rfl (by kernel_rfl) (fun _ _ _ h => h) (.inl ⟨by rfl, fun w hw => by go_simp⟩) (mkG HO.own) ?_
      refine fRefDo2A13_154 ?_
      refine wpAnyG_take0 (i := 9) (v := .int .i64 n) rfl (by kernel_rfl) (fun _ _ _ h => h) (.inl ⟨by rfl, fun w hw => by go_simp⟩) (mkG HO.own) ?_
      refine fRefDo2A13_154 ?_
      refine rdG (i := 10) (by kernel_rfl) rfl rfl (fun K hK => ?_)
      refine wp_alloc_ownF 40 rfl zV zeroRV HO ?_
      clear HO; intro w8 g10 HO _ _
      refine hK.out _ _ (mkG (HO.own.tl)) (fun _ => ?_)
      clear hK
      refine fRefDo2A13_154 ?_
      refine rdG (i := 11) (by kernel_rfl) rfl rfl (fun K hK => ?_)
      refine wp_store_ownF 0 40 _ _ rfl g10 0 (.agg cs.toArray) cs (by go_simp) (by go_simp) rfl HO rfl (iC infoRV Hcl) (by rw [Hcl.out]; exact Nat.le_refl _) Hc1.out (patch_whole' _ _ (by rw [Hcl.out]; rfl)) ?_
      intro w9 HO9
      refine hK.out _ _ (InvG.past trivial (by kernel_rfl)) (fun _ => ?_)
      clear hK
      refine fRefDo2A13_154 ?_
      refine wpAnyG_take0 (i := 12) (v := .int .i64 n) rfl (by kernel_rfl) (fun _ _ _ h => h) (.inl ⟨by rfl, fun w hw => by go_simp⟩) (InvG.past trivial (by kernel_rfl)) ?_
      refine fRefDo2A13_154 ?_
      refine wpAnyG_done (by kernel_rfl) ?_ _
      have HCt := Yq (show DoCut F w ((g9, .int .i64 num :: ec) :: [(g7, yc), (g6, cP 0 (.slice none 0 0)), (g4, zV), (gx, vc), (g1, ec0)]) [] (fun h => VR h y yc) (ado x1 (get v num)) (.pointer (some ⟨g10, 0, none⟩)) (.int .i64 n) w9 from ⟨g10, cs, n, rfl, rfl, HO9.read (MonoF.and VR.monoF RVn.monoF) (fun hr => ⟨hr.1.1, hr.2⟩), Hcl.out, Hc1.out⟩)
      clear HO9 HO
      go_wp2_with fail
      go_meet
      exact HCt.out
     ·refine wp_alloc_ownF 40 rfl zV zeroRV HO ?_
      clear HO; intro w8 g10 HO _ _
      refine hK.out _ _ (mkG (HO.own.tl)) (fun _ => ?_)
      clear hK
      refine fRefDo2A13_154 ?_
      refine rdG (i := 6) (by kernel_rfl) rfl rfl (fun K hK => ?_)
      go_simp
      refine (ih (exF F _ _) x1 (get v num) ec gc _ (HO.lt HFw.out) HDr.out.1 HDr.out.2.1 HDr.out.2.2.1 HDr.out.2.2.2.1 HDr.out.2.2.2.2 (HX.out.mono HO.args) HO.rd.2).mono ?_
      rintro e w7 hR
      obtain ⟨cs, n, rfl, hcl, hc1, hbq, hrv⟩ := RetN.form hR
      replace HO := (HO.call hbq).read (MonoF.and HO.mono (RVn.monoF (r := (ado x1 (get v num))) (cs := cs) (n := n))) (fun hr => ⟨hr, hrv⟩)
      have Hcl := Yq hcl; have Hc1 := Yq hc1; clear hR hrv hcl hc1 hbq
      refine hK.out _ _ (mkG (HO.own.tl)) (fun _ => ?_)
      clear hK
      refine fRefDo2A13_154 ?_
      refine wpAnyG_take (i := 7) (v := .tuple #[.agg cs.toArray, .int .i64 n]) rfl (by kernel_rfl) (fun _ _ _ h => h) (.inl ⟨by rfl, fun w hw => by go_simp⟩) (mkG (HO.own.tl)) ?_
      refine fRefDo2A13_154 ?_
      refine wpAnyG_take (i := 8) (v := .agg cs.toArray) rfl (by kernel_rfl) (fun _ _ _ h => h) (.inl ⟨by rfl, fun w hw => by go_simp⟩) (mkG (HO.own.tl)) ?_
      refine fRefDo2A13_154 ?_
      refine wpAnyG_take0 (i := 9) (v := .int .i64 n) rfl (by kernel_rfl) (fun _ _ _ h => h) (.inl ⟨by rfl, fun w hw => by go_simp⟩) (mkG (HO.own.tl)) ?_
      refine fRefDo2A13_154 ?_
      refine rdG (i := 11) (by kernel_rfl) rfl rfl (fun K hK => ?_)
      refine wp_store_ownF 0 40 _ _ rfl g10 0 (.agg cs.toArray) cs (by go_simp) (by go_simp) rfl HO rfl (iC infoRV Hcl) (by rw [Hcl.out]; exact Nat.le_refl _) Hc1.out (patch_whole' _ _ (by rw [Hcl.out]; rfl)) ?_
      intro w9 HO9
      refine hK.out _ _ (InvG.past trivial (by kernel_rfl)) (fun _ => ?_)
      clear hK
      refine fRefDo2A13_154 ?_
      refine wpAnyG_take0 (i := 12) (v := .int .i64 n) rfl (by kernel_rfl) (fun _ _ _ h => h) (.inl ⟨by rfl, fun w hw => by go_simp⟩) (InvG.past trivial (by kernel_rfl)) ?_
      refine fRefDo2A13_154 ?_
      refine wpAnyG_done (by kernel_rfl) ?_ _
      have HCt := Yq (show DoCut F w ((g9, .int .i64 num :: ec) :: [(g7, yc), (g6, cP 0 (.slice none 0 0)), (g4, zV), (gx, vc), (g1, ec0)]) [] (fun h => VR h y yc) (ado x1 (get v num)) (.pointer (some ⟨g10, 0, none⟩)) (.int .i64 n) w9 from ⟨g10, cs, n, rfl, rfl, HO9.read (MonoF.and VR.monoF RVn.monoF) (fun hr => ⟨hr.1.1, hr.2⟩), Hcl.out, Hc1.out⟩)
      clear HO9 HO
      go_wp2_with fail
      go_meet
      exact HCt.out
    ·refine wp_alloc_ownF 40 rfl zV zeroRV HO ?_
     clear HO; intro w8 g10 HO _ _
     refine hK.out _ _ (mkG (HO.own.tl)) (fun _ => ?_)
     clear hK
     refine fRefDo2A13_154 ?_
     refine rdG (i := 5) (by kernel_rfl) rfl rfl (fun K hK => ?_)
     go_simp
     refine (rget_ok (exF F _ _) v num vc _ (HO.lt HFw.out) HGr.out.1.1 HGr.out.1.2 (Hv.out.mono HO.args)).mono ?_
     rintro e w6 ⟨gc, rfl, hy, hbq⟩
     replace HO := (HO.call hbq).read (MonoF.and HO.mono (VR.monoF (x := (get v num)) (c := gc))) (fun hr => ⟨hr, hy⟩)
     clear hy hbq
     refine hK.out _ _ (mkG (HO.own.tl)) (fun _ => ?_)
     clear hK
     refine fRefDo2A13_154 ?_
     refine rdG (i := 6) (by kernel_rfl) rfl rfl (fun K hK => ?_)
     go_simp
     refine (ih (exF F _ _) x1 (get v num) ec gc _ (HO.lt HFw.out) HDr.out.1 HDr.out.2.1 HDr.out.2.2.1 HDr.out.2.2.2.1 HDr.out.2.2.2.2 (HX.out.mono HO.args) HO.rd.2).mono ?_
     rintro e w7 hR
     obtain ⟨cs, n, rfl, hcl, hc1, hbq, hrv⟩ := RetN.form hR
     replace HO := (HO.call hbq).read (MonoF.and HO.mono (RVn.monoF (r := (ado x1 (get v num))) (cs := cs) (n := n))) (fun hr => ⟨hr, hrv⟩)
     have Hcl := Yq hcl; have Hc1 := Yq hc1; clear hR hrv hcl hc1 hbq
     refine hK.out _ _ (mkG (HO.own.tl)) (fun _ => ?_)
     clear hK
     refine fRefDo2A13_154 ?_
     refine wpAnyG_take (i := 7) (v := .tuple #[.agg cs.toArray, .int .i64 n]) rfl (by kernel_rfl) (fun _ _ _ h => h) (.inl ⟨by rfl, fun w hw => by go_simp⟩) (mkG (HO.own.tl)) ?_
     refine fRefDo2A13_154 ?_
     refine wpAnyG_take (i := 8) (v := .agg cs.toArray) rfl (by kernel_rfl) (fun _ _ _ h => h) (.inl ⟨by rfl, fun w hw => by go_simp⟩) (mkG (HO.own.tl)) ?_
     refine fRefDo2A13_154 ?_
     refine wpAnyG_take0 (i := 9) (v := .int .i64 n) rfl (by kernel_rfl) (fun _ _ _ h => h) (.inl ⟨by rfl, fun w hw => by go_simp⟩) (mkG (HO.own.tl)) ?_
     refine fRefDo2A13_154 ?_
     refine rdG (i := 11) (by kernel_rfl) rfl rfl (fun K hK => ?_)
     refine wp_store_ownF 0 40 _ _ rfl g10 0 (.agg cs.toArray) cs (by go_simp) (by go_simp) rfl HO rfl (iC infoRV Hcl) (by rw [Hcl.out]; exact Nat.le_refl _) Hc1.out (patch_whole' _ _ (by rw [Hcl.out]; rfl)) ?_
     intro w9 HO9
     refine hK.out _ _ (InvG.past trivial (by kernel_rfl)) (fun _ => ?_)
     clear hK
     refine fRefDo2A13_154 ?_
     refine wpAnyG_take0 (i := 12) (v := .int .i64 n) rfl (by kernel_rfl) (fun _ _ _ h => h) (.inl ⟨by rfl, fun w hw => by go_simp⟩) (InvG.past trivial (by kernel_rfl)) ?_
     refine fRefDo2A13_154 ?_
     refine wpAnyG_done (by kernel_rfl) ?_ _
     have HCt := Yq (show DoCut F w ((g9, .int .i64 num :: ec) :: [(g7, yc), (g6, cP 0 (.slice none 0 0)), (g4, zV), (gx, vc), (g1, ec0)]) [] (fun h => VR h y yc) (ado x1 (get v num)) (.pointer (some ⟨g10, 0, none⟩)) (.int .i64 n) w9 from ⟨g10, cs, n, rfl, rfl, HO9.read (MonoF.and VR.monoF RVn.monoF) (fun hr => ⟨hr.1.1, hr.2⟩), Hcl.out, Hc1.out⟩)
     clear HO9 HO
     go_wp2_with fail
     go_meet
     exact HCt.out
   case rest =>
    obtain ⟨g10, cs, n, rfl, rfl, HOc, hcl, hc1⟩ := hcut
    have Hcl := Yq hcl; have Hc1 := Yq hc1
    clear HO hcl hc1
    have HO := HOc
    clear HOc
    generalize hR : ado x1 (get v num) = rr at *
    cases rr with
    | bad b =>
     have HK : Hid (R0 = .bad b) := HbadK.out b rfl
     obtain ⟨rfl, rfl⟩ := HO.rd.2
     have hb := Hbne.out b rfl
     have hq : ((b : Int) == 0) = false := by rw [beq_eq_false_iff_ne]; omega
     have hq2 : ¬ (b : Int) = 0 := by omega
     clear hb HbadK HokK Hbne
     have hnn := (HO.at 3 rfl).whole
     go_wp2_with (first
      | ((with_reducible refine atOp (.load 40 _) ?_); refine wpList_load_seg rfl 40 _ rfl _ _ rfl _ _ hnn Tryz.underlying40 rfl infoRV ?_)
      | ((with_reducible refine atOp (.store 40 _ _) ?_); refine wpList_store_ownF 4 rfl 40 _ _ rfl _ 0 (cP 0 (.slice none 0 0)) rfl rfl HO rfl infoRV (Nat.le_refl _) (one_cP rfl) rfl ?_; clear HO; intro w6 HO)
      | fail)
     rw [HK.out]
     refine bodyPost_ret (v := .tuple #[.agg zV.toArray, .int .i64 (b : Int)]) ?_ rfl (RetN.of HO.below ⟨rfl, rfl⟩)
     exact results2_blk rfl _ _ g4 zV _ rfl rfl (HO.at 4 rfl) _ Tryz.underlying40 rfl infoRV
    | ok z =>
     have HI' := Yq (HokK.out z rfl)
     obtain ⟨rfl, hz⟩ := HO.rd.2
     have HW := Yq (rwith_ok (exF F _ _) y z num yc cs _ (HO.lt HFw.out) HGr.out.2.1.1 HGr.out.2.1.2 HGr.out.1.2 HGr.out.2.2 HO.rd.1 HO.rd.2.2)
     have HLy := Yq HO.rd.1.len
     have hyy := (HO.at 2 rfl).whole
     have hxx := (HO.at 0 rfl).whole
     have hnm := (HO.at 1 rfl).cell (o := 0) (u := .int .i64 num) rfl
     clear HbadK HokK Hbne hz
     go_wp2_with (first
      | ((with_reducible refine atOp (.load 40 _) ?_); refine wpList_load_seg rfl 40 _ rfl _ _ rfl _ _ (by first | exact hyy | exact hxx) Tryz.underlying40 rfl ?_ ?_; (· first | exact iC infoRV HLy | exact iC infoRV Hcl))
      | (go_at_call 47; (with_reducible refine HW.out.mono ?_); rintro e w6 ⟨yc2, rfl, hy, hbq⟩; have HOq := (HO.call hbq).read (MonoF.and HO.mono (VR.monoF (x := withV y num z) (c := yc2))) (fun hr => ⟨hr, hy⟩); clear HO; have HO := HOq; have HLq := Yq hy.len; have HO1q := Yq hy.ones; clear HOq hy hbq hyy hxx hnm)
      | ((with_reducible refine atOp (.store 40 _ _) ?_); refine wpList_store_ownF 2 rfl 40 _ _ rfl _ 0 yc2 rfl rfl HO rfl (iC infoRV HLq) (by rw [HLq.out, HLy.out]; decide) HO1q.out (patch_whole' _ _ (by rw [HLq.out, HLy.out])) ?_; clear HO; intro w7 HO)
      | fail)
     have HOn : Hid (OwnF F w [(g7, yc2), (g6, cP 0 (.slice none 0 0)), (g4, zV), (gx, vc), (g1, ec0)] [] (fun h => VR h (withV y num z) yc2) w7) := Yq ((HO.read VR.monoF (fun hr => hr.2)).sub (.cons _ (.cons _ (List.Sublist.refl _))))
     go_roundw
     case rel => exact ⟨k + 1, withV y num z, yc2, by omega, by go_num, HI', HOn⟩
     case measure => simp [intOf]; omega
  ·obtain rfl : k = ns := by omega
   have Hfin : Hid (adoF fs v = .ok y) := IntoInv.fin (by rw [← Hm1.out, Hn.out]; exact HI.out.1.1)
   have Hyr : Hid (y.rest = v.rest) := HI.out.2
   have HVy := Yq HO.rd
   have HLy := Yq HO.rd.len; have HOy := Yq HO.rd.ones
   have hq := HC.out _ _ (HO.at 4 rfl)
   have q16 := hq.c16; have q17 := hq.c17; have q18 := hq.c18
   have qv4 := (HO.at 3 rfl).cell HV4.out
   clear hq hlt hkn HI
   cases r with
   | false =>
    have HK : Hid (R0 = .ok y) := by show _ = _; rw [HR0.out]; unfold Val.intoT; rw [Hfin.out]; rfl
    have hyy := (HO.at 0 rfl).whole
    go_wp2_with (first
     | ((with_reducible refine atOp (.load 40 _) ?_); refine wpList_load_seg rfl 40 _ rfl _ _ rfl _ _ hyy Tryz.underlying40 rfl (iC infoRV HLy) ?_)
     | ((with_reducible refine atOp (.store 40 _ _) ?_); refine wpList_store_ownF 2 rfl 40 _ _ rfl _ 0 (yc) rfl rfl HO rfl (iC infoRV HLy) (by rw [HLy.out]; decide) HOy.out (patch_whole' _ _ (by rw [HLy.out]; rfl)) ?_; clear HO; intro w6 HO)
     | fail)
    rw [HK.out]
    refine bodyPost_ret (v := .tuple #[.agg yc.toArray, .int .i64 0]) ?_ rfl (RetN.of HO.below ⟨rfl, HO.done⟩)
    exact results2_blk rfl _ _ g4 yc _ rfl rfl (HO.at 2 rfl) _ Tryz.underlying40 rfl (iC infoRV HLy)
   | true =>
    by_cases hq : v.rest = ro
    ·have hs : (v.rest.toList == ro.toList) = true := by rw [hq]; simp
     have HK : Hid (R0 = .ok (setRest y rn)) := by show _ = _; rw [HR0.out]; unfold Val.intoT; rw [Hfin.out]; simp only [if_true]; exact if_pos (Hyr.out.trans hq)
     clear hq
     obtain ⟨yc2, hyc2⟩ : ∃ z, z = patch yc 4 [.string rn] := ⟨_, rfl⟩
     have HL2 : Hid (yc2.length = 7) := by show _ = _; rw [hyc2, patch_len (by rw [HLy.out]; exact Nat.le_of_ble_eq_true rfl), HLy.out]
     have Hyc2 := Yq hyc2.symm
     have HO2 : Hid (∀ u ∈ yc2, u.oneCell' = true) := Yq (by rw [hyc2]; exact (HVy.out.setRest HSZ.out.2).ones)
     clear hyc2
     go_wp2_with (first
      | ((with_reducible refine atOp (.store 9 _ _) ?_); refine wpList_store_ownF1 0 rfl 9 _ _ rfl _ 4 (.string rn) rfl rfl HO rfl (by kernel_rfl) (by rw [HLy.out]; exact Nat.le_of_ble_eq_true rfl) rfl Hyc2.out ?_; clear HO; intro w5 HO; have hyy := (HO.at 0 rfl).whole; clear q16 q17 q18 qv4)
      | ((with_reducible refine atOp (.load 40 _) ?_); refine wpList_load_seg rfl 40 _ rfl _ _ rfl _ _ hyy Tryz.underlying40 rfl (iC infoRV HL2) ?_)
      | ((with_reducible refine atOp (.store 40 _ _) ?_); refine wpList_store_ownF 2 rfl 40 _ _ rfl _ 0 (yc2) rfl rfl HO rfl (iC infoRV HL2) (by rw [HL2.out]; decide) HO2.out (patch_whole' _ _ (by rw [HL2.out]; rfl)) ?_; clear HO; intro w6 HO)
      | fail)
     rw [HK.out]
     refine bodyPost_ret (v := .tuple #[.agg yc2.toArray, .int .i64 0]) ?_ rfl (RetN.of HO.below ⟨rfl, by rw [← Hyc2.out]; exact HO.done.setRest HSZ.out.2⟩)
     exact results2_blk rfl _ _ g4 yc2 _ rfl rfl (HO.at 2 rfl) _ Tryz.underlying40 rfl (iC infoRV HL2)
    ·have hs : (v.rest.toList == ro.toList) = false := by rw [toList_beq]; simpa using hq
     have HK : Hid (R0 = .bad 13) := by show _ = _; rw [HR0.out]; unfold Val.intoT; rw [Hfin.out]; simp only [if_true]; exact if_neg (fun e => hq (Hyr.out.symm.trans e))
     clear hq
     have hnn := (HO.at 1 rfl).whole
     go_wp2_with (first
      | ((with_reducible refine atOp (.load 40 _) ?_); refine wpList_load_seg rfl 40 _ rfl _ _ rfl _ _ hnn Tryz.underlying40 rfl infoRV ?_)
      | ((with_reducible refine atOp (.store 40 _ _) ?_); refine wpList_store_ownF 2 rfl 40 _ _ rfl _ 0 (cP 0 (.slice none 0 0)) rfl rfl HO rfl infoRV (Nat.le_refl _) (one_cP rfl) rfl ?_; clear HO; intro w6 HO)
      | fail)
     rw [HK.out]
     refine bodyPost_ret (v := .tuple #[.agg zV.toArray, .int .i64 13]) ?_ rfl (RetN.of HO.below ⟨rfl, rfl⟩)
     exact results2_blk rfl _ _ g4 zV _ rfl rfl (HO.at 2 rfl) _ Tryz.underlying40 rfl infoRV
end Go.Proofs.YtebekgdjknenlaaGreatDoor
