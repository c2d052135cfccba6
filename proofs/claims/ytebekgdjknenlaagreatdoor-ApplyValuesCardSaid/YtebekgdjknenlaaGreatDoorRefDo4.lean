/- redlineref23.do, walked: Book. -/
import Derived.Test.YtebekgdjknenlaaGreatDoorGpBA
set_option maxRecDepth 100000
set_option maxHeartbeats 8000000
set_option linter.unusedVariables false
set_option linter.unusedSimpArgs false
namespace Go.Proofs.YtebekgdjknenlaaGreatDoor
open Go.RowKit
open Val (V E right cmp eright ado adoF adoS adoK Res avalue esm esmF esmS esmK vmx esz eszF eszS eszK efields esteps ekeys get find withV putV mkM mkP mkL partB setRest headKind KI KP KeysOf allF allS allK)
theorem fRefDo4A13_154 {P : Program} {M : Region.Mode} {O : Array Oper} {Q : Exit → Act → World → Prop} {Y Z : World → Prop} {f F : Nat} {a b c e g i j k l m n o p : Bool} {q r s t u v x y z a0 a1 a2 a3 a4 a5 a6 a7 a8 a9 aA aB aC aD aE aF aG aH aI aJ aK aL aM aN aO aP aQ aR aS aT aU aV aW aX aY aZ b0 b1 b2 b3 b4 b5 b6 b7 b8 b9 bA bB bC bD bE bF bG bH bI bJ bK bL bM bN bO bP bQ bR bS bT bU bV bW bX bY bZ c0 c1 c2 c3 c4 c5 c6 c7 c8 c9 cA cB cC cD cE cF cG cH cI cJ cK cL cM cN cO cP cQ cR cS cT cU cV cW cX cY cZ e0 e1 e2 e3 e4 e5 e6 e7 e8 e9 eA eB eC eD eE eF eG eH eI eJ eK eL eM eN eO eP eQ eR eS eT eU eV eW eX eY eZ g0 : Value} {d} {w : World} (h : wpAnyG P M O Q Y Z f F #[a,b,c,e,g,i,j,k,l,m,n,o,p] ⟨#[q,r,s,t,u,v,x,y,z,a0,a1,a2,a3,a4,a5,a6,a7,a8,a9,aA,aB,aC,aD,aE,aF,aG,aH,aI,aJ,aK,aL,aM,aN,aO,aP,aQ,aR,aS,aT,aU,aV,aW,aX,aY,aZ,b0,b1,b2,b3,b4,b5,b6,b7,b8,b9,bA,bB,bC,bD,bE,bF,bG,bH,bI,bJ,bK,bL,bM,bN,bO,bP,bQ,bR,bS,bT,bU,bV,bW,bX,bY,bZ,c0,c1,c2,c3,c4,c5,c6,c7,c8,c9,cA,cB,cC,cD,cE,cF,cG,cH,cI,cJ,cK,cL,cM,cN,cO,cP,cQ,cR,cS,cT,cU,cV,cW,cX,cY,cZ,e0,e1,e2,e3,e4,e5,e6,e7,e8,e9,eA,eB,eC,eD,eE,eF,eG,eH,eI,eJ,eK,eL,eM,eN,eO,eP,eQ,eR,eS,eT,eU,eV,eW,eX,eY,eZ,g0],d⟩ w) : wpAnyG P M O Q Y Z f F #[a,b,c,e,g,i,j,k,l,m,n,o,p] ⟨#[q,r,s,t,u,v,x,y,z,a0,a1,a2,a3,a4,a5,a6,a7,a8,a9,aA,aB,aC,aD,aE,aF,aG,aH,aI,aJ,aK,aL,aM,aN,aO,aP,aQ,aR,aS,aT,aU,aV,aW,aX,aY,aZ,b0,b1,b2,b3,b4,b5,b6,b7,b8,b9,bA,bB,bC,bD,bE,bF,bG,bH,bI,bJ,bK,bL,bM,bN,bO,bP,bQ,bR,bS,bT,bU,bV,bW,bX,bY,bZ,c0,c1,c2,c3,c4,c5,c6,c7,c8,c9,cA,cB,cC,cD,cE,cF,cG,cH,cI,cJ,cK,cL,cM,cN,cO,cP,cQ,cR,cS,cT,cU,cV,cW,cX,cY,cZ,e0,e1,e2,e3,e4,e5,e6,e7,e8,e9,eA,eB,eC,eD,eE,eF,eG,eH,eI,eJ,eK,eL,eM,eN,eO,eP,eQ,eR,eS,eT,eU,eV,eW,eX,eY,eZ,g0],d⟩ w := h
def BookSide (f : List (V × E)) (v : V) (k : Nat) (y : V) : Prop := (k = 0 → y = v) ∧ (0 < k → ∃ h : 0 < f.length, KeysOf f[0].1.kind v)
theorem BookSide.start (f : List (V × E)) (v : V) : BookSide f v 0 v := ⟨fun _ => rfl, fun h => absurd h (by omega)⟩
theorem BookSide.same {f : List (V × E)} (hs : ekeys none f = true) {k : Nat} (hk : k < f.length) : f[k].1.kind = (f[0]'(by omega)).1.kind := by
 cases k with
 | zero => rfl
 | succ k => exact (List.pairwise_iff_getElem.1 (Val.ekeys_lt0 hs) 0 (k + 1) (by omega) hk (by omega)).1.1
theorem BookSide.keys {f : List (V × E)} {v y : V} {k : Nat} (h : BookSide f v k y) (hs : ekeys none f = true) (hk : k < f.length) (hvr : right v = true) (hvk : v.kind = 5 ∨ v.kind = 0) (hh : ¬ headKind y f[k].1) : KeysOf f[k].1.kind v := by
 by_cases h0 : k = 0
 ·rw [h.1 h0] at hh; exact Val.kinds_of hvr hvk hh
 ·obtain ⟨h1, h2⟩ := h.2 (by omega)
  rw [BookSide.same hs hk]; exact h2
theorem BookSide.step {f : List (V × E)} {v : V} {k : Nat} (hs : ekeys none f = true) (hk : k < f.length) (hkv : KeysOf f[k].1.kind v) (y : V) : BookSide f v (k + 1) y :=
 ⟨fun h => absurd h (by omega), fun _ => ⟨by omega, by rw [← BookSide.same hs hk]; exact hkv⟩⟩
theorem Val.map_pairs {y : V} (hr : right y = true) (hk : y.kind = 5 ∨ y.kind = 0) : (y.kind = 5 → y.pairs ≠ []) ∧ (y.kind ≠ 5 → y.pairs = []) := by
 have h := (Val.right_map hr hk).1
 constructor
 ·intro h5 he
  rw [he] at h
  rw [h] at h5
  exact absurd h5 (by decide)
 ·intro h0
  cases hp : y.pairs with
  | nil => rfl
  | cons p r =>
   rw [hp] at h
   rw [h] at h0
   exact absurd rfl h0
theorem rdo_4x (F : List (Option Nat)) (e : E) (v : V) (ec vc : List Value) (w : World) (hk4 : e.kind = 4) (hk : ¬ (v.kind = 5 ∨ v.kind = 0)) (he : ER (fragE w F) e ec) (hv : VR (fragE w F) v vc) :
  Calls Tryz.prog 22 #[.agg ec.toArray, .agg vc.toArray] w (RetN F w (.bad 13)) := by
 have HK0 : Hid (ec[0]? = some (.int .i64 4)) := Yq (by rw [← hk4]; exact he.k0)
 have HV0 := Yq hv.k0
 have d1 : (v.kind == 5) = false := by rw [beq_eq_false_iff_ne]; exact fun e => hk (.inl e)
 have d2 : (v.kind == 0) = false := by rw [beq_eq_false_iff_ne]; exact fun e => hk (.inr e)
 have d3 : ¬ v.kind = 5 := fun e => hk (.inl e)
 have d4 : ¬ v.kind = 0 := fun e => hk (.inr e)
 generalize v.kind = kd at *
 clear he hv hk4 hk
 go_enter Tryz.func22, Tryz.ntmps22
 have HO := Own.nil w
 go_upto_region 2 with (first
  | ((with_reducible refine atOp (.box 52 _) ?_); refine wpList_box_own rfl 52 _ rfl ec rfl HO ?_; clear HO; intro w1 g1 HO)
  | ((with_reducible refine atOp (.box 40 _) ?_); refine wpList_box_own rfl 40 _ rfl vc rfl HO ?_; clear HO; intro w1 gx HO)
  | (refine wpList_build0 rfl 40 rfl _ rp_build ?_; refine wpList_alloc_own rfl 40 rfl zV zeroRV HO ?_; clear HO; intro w3 g6 HO)
  | ((with_reducible refine atOp (.alloc 40) ?_); refine wpList_alloc_own rfl 40 rfl zV zeroRV HO ?_; clear HO; intro w2 g4 HO)
  | ((with_reducible refine atOp (.store 40 _ _) ?_); refine wpList_store_own 0 rfl 40 _ _ rfl _ 0 (cP 0 (.slice none 0 0)) rfl rfl HO rfl infoRV (Nat.le_refl _) (one_cP rfl) rfl ?_; clear HO; intro w4 HO)
  | fail)
 have k0 := (HO.at 3 rfl).cell HK0.out
 have v0 := (HO.at 2 rfl).cell HV0.out
 have hnn := (HO.at 0 rfl).whole
 go_wp2_with (first
  | ((with_reducible refine atOp (.load 40 _) ?_); refine wpList_load_seg rfl 40 _ rfl _ _ rfl _ _ hnn Tryz.underlying40 rfl infoRV ?_)
  | ((with_reducible refine atOp (.store 40 _ _) ?_); refine wpList_store_own 1 rfl 40 _ _ rfl _ 0 (cP 0 (.slice none 0 0)) rfl rfl HO rfl infoRV (Nat.le_refl _) (one_cP rfl) rfl ?_; clear HO; intro w6 HO)
  | fail)
 refine bodyPost_ret (v := .tuple #[.agg zV.toArray, .int .i64 13]) ?_ rfl (RetN.of HO.below ⟨rfl, rfl⟩)
 exact results2_blk rfl _ _ g4 zV _ rfl rfl (HO.at 1 rfl) _ Tryz.underlying40 rfl infoRV
theorem rdo_4g (N : Nat) (ih : RDoAt N) (F : List (Option Nat)) (o nw : V) (fs : List (Int × E)) (r : Bool) (ro rn : ByteArray) (s : List (Int × Int × V × E)) (ks : List (V × E)) (v : V) (ec0 vc : List Value) (w : World) (hF : ∀ k, some k ∈ F → k < w.heap.size)
  (hs : ∀ e ∈ ks, SizeOf.sizeOf e.2 < N) (hst : allK ks) (hef : ekeys none ks = true) (hsm : esmK ks) (hvr : right v = true) (hbd : vmx v + eszK ks ≤ 90000) (he : ER (fragE w F) (.mk 4 o nw fs r ro rn s ks) ec0) (hv : VR (fragE w F) v vc) (hk : v.kind = 5 ∨ v.kind = 0) :
  Calls Tryz.prog 22 #[.agg ec0.toArray, .agg vc.toArray] w (RetN F w (adoK ks v)) := by
 have HIO := Yq (show (BookInv ks v 0 v ∧ BookOld ks v 0 v) ∧ BookSide ks v 0 v from ⟨⟨BookInv.start hvr hk hbd, BookOld.start ks v⟩, BookSide.start ks v⟩)
 have Hv := Yq hv; have HLv := Yq hv.len; have HOv := Yq hv.ones
 have HV0 := Yq hv.k0
 have Hvr := Yq (And.intro hvr hk)
 rw [ER] at he
 obtain ⟨oc, nc, fv, sv, kv, fe, se, ke, hxc, hsz2, ⟨h3, h4⟩, ⟨h5, h6, h7⟩, h8, h9, h10⟩ := he
 obtain ⟨a1, c1, e1, b1, b2, b3⟩ := h5.len
 obtain ⟨a2, c2, e2, d1, d2, d3⟩ := h6.len
 obtain ⟨a3, c3, e3, p1, p2, p3⟩ := h7.len
 subst e1 e2 e3
 have HX3 : Hid (FlatC 28 (fragE w F) (.slice a3 ke.length c3) ke ∧ EKs (fragE w F) ks ke) := ⟨h7, h10⟩
 have Hm3 := Yq h10.len
 have HC := Yq (fun (w2 : World) (g : Nat) (hB : Blk w2 g ec0) => EdAt.of h3.len h4.len (hxc ▸ hB))
 obtain ⟨ns, hn⟩ : ∃ z, z = ke.length := ⟨_, rfl⟩
 rw [← hn] at HC HX3
 have Hn := Yq hn.symm
 have hns : ns ≤ 9223372036854775807 := by rw [hn]; unfold maxLen at p2; omega
 have HFw := Yq hF; have HS := Yq hs; have HST := Yq hst; have HEF := Yq hef; have HM := Yq hsm
 obtain ⟨R0, hR0⟩ : ∃ z, z = adoK ks v := ⟨_, rfl⟩
 rw [← hR0]
 have HR0 := Yq hR0
 clear hxc hsz2 h3 h4 h5 h6 h7 h8 h9 h10 b1 b2 b3 d1 d2 d3 p1 p2 p3 hF hn hs hst hef hsm hvr hbd hv hR0
 generalize hvk : v.kind = vk at hk HV0
 clear hvk
 rcases hk with rfl | rfl
 all_goals
  go_enter Tryz.func22, Tryz.ntmps22
  have HO := Own.nil w
  go_upto_region 2 with (first
   | ((with_reducible refine atOp (.box 52 _) ?_); refine wpList_box_own rfl 52 _ rfl ec0 rfl HO ?_; clear HO; intro w1 g1 HO)
   | ((with_reducible refine atOp (.box 40 _) ?_); refine wpList_box_own rfl 40 _ rfl vc rfl HO ?_; clear HO; intro w1 gx HO)
   | (refine wpList_build0 rfl 40 rfl _ rp_build ?_; refine wpList_alloc_own rfl 40 rfl zV zeroRV HO ?_; clear HO; intro w3 g6 HO)
   | ((with_reducible refine atOp (.alloc 40) ?_); refine wpList_alloc_own rfl 40 rfl zV zeroRV HO ?_; clear HO; intro w2 g4 HO)
   | ((with_reducible refine atOp (.store 40 _ _) ?_); refine wpList_store_own 0 rfl 40 _ _ rfl _ 0 (cP 0 (.slice none 0 0)) rfl rfl HO rfl infoRV (Nat.le_refl _) (one_cP rfl) rfl ?_; clear HO; intro w4 HO)
   | fail)
  have HOF := OwnF.start HO F [] (fun r hr => by cases hr)
  clear HO
  have HO := HOF
  clear HOF
  have k0 := (HC.out _ _ (HO.at 3 rfl)).c0
  have qv0 := (HO.at 2 rfl).cell HV0.out
  have hvv := (HO.at 2 rfl).whole
  go_wp2_with (first
   | ((with_reducible refine atOp (.load 40 _) ?_); refine wpList_load_seg rfl 40 _ rfl _ _ rfl _ _ hvv Tryz.underlying40 rfl (iC infoRV HLv) ?_)
   | ((with_reducible refine atOp (.alloc 40) ?_); refine wpList_alloc_ownF rfl 40 rfl zV zeroRV HO ?_; clear HO k0 qv0 hvv; intro w4 g12 HO)
   | ((with_reducible refine atOp (.store 40 _ _) ?_); refine wpList_store_ownF 0 rfl 40 _ _ rfl _ 0 (vc) rfl rfl HO rfl (iC infoRV HLv) (by rw [HLv.out]; decide) HOv.out (patch_whole' _ _ (by rw [HLv.out]; rfl)) ?_; clear HO; intro w5 HO; have q20 := (HC.out _ _ (HO.at 4 rfl)).c20)
   | fail)
  clear q20
  go_simp
  go_loopw [103] (fun i wr => ∃ (k : Nat) (y : V) (yc : List Value), k ≤ ns ∧ i = .int .i64 k ∧ Hid ((BookInv ks v k y ∧ BookOld ks v k y) ∧ BookSide ks v k y) ∧ Hid (OwnF F w [(g12, yc), (g6, cP 0 (.slice none 0 0)), (g4, zV), (gx, vc), (g1, ec0)] [] (fun h => VR h y yc) wr)) (fun i _ => ns - (intOf i).toNat)
  case atStart => exact ⟨0, v, vc, Nat.zero_le _, rfl, HIO, Yq (HO.read VR.monoF (fun _ => Hv.out.mono HO.args))⟩
  case round =>
   clear HO
   obtain ⟨k, y, yc, hkn, rfl, HI, HO2⟩ := hrel
   have HO := HO2.out
   clear HO2 HIO
   by_cases hlt : k < ns
   ·have hks : k < ke.length := by rw [Hn.out]; exact hlt
    have hkf : k < ks.length := by rw [← Hm3.out]; exact hks
    obtain ⟨b0, o0, hb0, hidx, hcell⟩ := FlatC.at (n := ns) (cap := c3) (a := a3) (HX3.out.1.mono (fragE_le _ _)) (by decide) (i := k) hks Tryz.underlying50 sizeREK
    have hr : wr.rangeAt b0 o0 ke[k] := range_below hcell HO.below hb0
    obtain ⟨kc, ec, hx, rk, rx⟩ := HX3.out.2.at hkf hks
    rw [hx] at hr
    have HLx := Yq rx.len; have HLk := Yq rk.len; have HK0k := Yq rk.k0
    have HL : Hid ((kc ++ ec).length = 28) := by show _ = _; simp [rx.len, rk.len]
    have H1 := Yq (one_app rk.ones rx.ones)
    have ha := HST.out _ (List.getElem_mem hkf)
    have hgo : find y ks[k].1 = find v ks[k].1 := HI.out.1.2 k hkf (Nat.le_refl _)
    have HbadK := Yq (fun b (hR : Val.keyR ks[k] y = .bad b) => (show R0 = .bad b from by rw [HR0.out]; exact HI.out.1.1.bad hkf hR))
    have HKV := Yq (fun (hh : ¬ headKind y ks[k].1) => And.intro (HI.out.2.keys HEF.out hkf Hvr.out.1 Hvr.out.2 hh) ha.1)
    have HokK := Yq (fun (hh : ¬ headKind y ks[k].1) x (hR : ado ks[k].2 (find v ks[k].1) = .ok x) (h3 : ¬ (x.kind ≠ 0 ∧ ¬ (1 ≤ x.kind ∧ x.kind ≤ 3))) => (show (BookInv ks v (k + 1) (putV y ks[k].1 x) ∧ BookOld ks v (k + 1) (putV y ks[k].1 x)) ∧ BookSide ks v (k + 1) (putV y ks[k].1 x) from by
     have hky := Val.kinds_of HI.out.1.1.2.1 HI.out.1.1.2.2.1 hh
     have hkv := HI.out.2.keys HEF.out hkf Hvr.out.1 Hvr.out.2 hh
     have hx := Val.ado_right _ _ _ ha.2 (Val.right_find Hvr.out.1 hkv ha.1) hR
     exact ⟨⟨HI.out.1.1.step hkf HST.out (keyR_ok hh (by rw [hgo]; exact hR) h3), HI.out.1.2.step hkf HST.out HEF.out HI.out.1.1.2.1 hky (part_none hx h3)⟩, BookSide.step HEF.out hkf hkv _⟩))
    have hsz := HI.out.1.1.sizes hkf
    have HYK := Yq (And.intro (And.intro HI.out.1.1.2.1 HI.out.1.1.2.2.1) (Nat.le_of_lt hsz.2))
    have HYM := Yq (fun (hh : ¬ headKind y ks[k].1) => Val.kinds_of HI.out.1.1.2.1 HI.out.1.1.2.2.1 hh)
    rw [hgo] at hsz
    have Hgo := Yq hgo
    have HDr := Yq (And.intro (HS.out _ (List.getElem_mem hkf)) (And.intro ha.2 (And.intro (fun (hh : ¬ headKind y ks[k].1) => Val.right_find Hvr.out.1 (HKV.out hh).1 (HKV.out hh).2) (And.intro (Val.esmK_at HM.out _ (List.getElem_mem hkf)) hsz.1))))
    have HX : Hid (ER (fragE w F) ks[k].2 ec) := rx
    have HKx : Hid (VR (fragE w F) ks[k].1 kc) := rk
    have Hbne := Yq (Val.ado_bad ks[k].2 (find v ks[k].1))
    clear hcell hx rx rk ha hgo hsz
    generalize ks[k] = q at *
    obtain ⟨key, x1⟩ := q
    simp only at *
    clear hkf hks
    go_wp2_with (first
     | ((with_reducible refine atOp (.load 80 _) ?_); refine wpList_load_seg rfl 80 _ rfl _ _ rfl _ _ hr Tryz.underlying80 rfl (iC infoREK HL) ?_)
     | ((with_reducible refine atOp (.alloc 80) ?_); refine wpList_alloc_ownF rfl 80 rfl (zV ++ zE) zeroREK HO ?_; clear HO; intro w4 g14 HO)
     | ((with_reducible refine atOp (.store 80 _ _) ?_); refine wpList_store_ownF 0 rfl 80 _ _ rfl _ 0 (kc ++ ec) rfl rfl HO rfl (iC infoREK HL) (by rw [HL.out]; decide) H1.out (patch_whole' _ _ (by rw [HL.out]; rfl)) ?_; clear HO hr hidx; intro wa HO)
     | fail)
    go_simp
    go_cut [121] from 104 to 151 (fun s42 wx => s42 = .bool (decide (headKind y key)) ∧ Below wa.heap.size wa wx)
    case first =>
     have hV5 := HO.rd
     obtain ⟨ap, cp, pe, h6, hFl, hPs⟩ := VR.ps hV5
     have q6 := (HO.at 1 rfl).cell h6
     have qy := (HO.at 1 rfl).cell hV5.k0
     have qk : wa.cell? ⟨g14, 0, none⟩ = some (.int .i64 key.kind) := (HO.at 0 rfl).cell (o := 0) (by rw [List.getElem?_append_left (by rw [HLk.out]; decide)]; exact HK0k.out)
     obtain ⟨hm5, hm0⟩ := Val.map_pairs HYK.out.1.1 HYK.out.1.2
     by_cases hy5 : y.kind = 5
     ·cases hps : y.pairs with
      | nil => exact absurd hps (hm5 hy5)
      | cons p rp =>
       rw [hy5] at qy
       have hpl : 0 < pe.length := by rw [hPs.len, hps]; simp
       obtain ⟨b1, o1, hb1, hidx1, hcell1⟩ := FlatC.at (n := pe.length) (cap := cp) (a := ap) (hFl.mono (fragE_le _ _)) (by decide) (i := 0) hpl Tryz.underlying38 sizeRP
       obtain ⟨kc', xc', hx', rk', rxx⟩ := hPs.at (i := 0) (by rw [hps]; simp) hpl
       have qp : wa.cell? ⟨b1, o1, none⟩ = some (.int .i64 p.1.kind) := by
        have h0 := rk'.k0
        simp only [hps, List.getElem_cons_zero] at h0
        have := hcell1 0 (.int .i64 p.1.kind) (by rw [hx', List.getElem?_append_left (by rw [rk'.len]; decide)]; exact h0)
        simpa using this
       rw [show ((0 : Nat) : Int) = 0 from rfl] at hidx1
       have Hd : Hid (decide (headKind y key) = decide (p.1.kind ≠ key.kind)) := by
        show _ = _
        exact decide_eq_decide.2 (headKind_of (by rw [hps]; rfl))
       clear rxx rk' hx' hcell1 h6 hFl hPs hps hpl hlt hkn hb0 hm5 hm0 hy5 hV5
       generalize p.1.kind = pk at *
       generalize hkk : key.kind = kk at *
       clear hkk
       go_quiet (fail)
       all_goals
        go_wp2_with fail
        go_meet
        exact ⟨by rw [Hd.out]; by_cases h : pk = kk <;> simp [h], Below.drewN (Below.refl _ _) _⟩
     ·have Hd : Hid (decide (headKind y key) = false) := decide_eq_false (headKind_nil (hm0 hy5))
      have d1 : (y.kind == 5) = false := by rw [beq_eq_false_iff_ne]; exact hy5
      have d2 : decide (y.kind = 5) = false := decide_eq_false hy5
      generalize y.kind = yk at *
      clear h6 hFl hPs hlt hkn hb0 hm5 hm0 hV5
      go_quiet (fail)
      all_goals
       go_wp2_with fail
       go_meet
       exact ⟨by rw [Hd.out], Below.drewN (Below.refl _ _) _⟩
    case rest =>
     obtain ⟨rfl, hbq⟩ := hcut
     have HOq := HO.call hbq
     clear HO hbq
     have HO := HOq
     clear HOq
     obtain ⟨w5, hw5⟩ : ∃ z, z = wc := ⟨wc, rfl⟩
     rw [← hw5] at HO ⊢
     clear hw5
     by_cases hh : headKind y key
     ·have HK : Hid (R0 = .bad 13) := HbadK.out 13 (keyR_head hh)
      rw [decide_eq_true hh]
      clear hh
      have hnn := (HO.at 2 rfl).whole
      go_wp2_with (first
       | ((with_reducible refine atOp (.load 40 _) ?_); refine wpList_load_seg rfl 40 _ rfl _ _ rfl _ _ hnn Tryz.underlying40 rfl infoRV ?_)
       | ((with_reducible refine atOp (.store 40 _ _) ?_); refine wpList_store_ownF 3 rfl 40 _ _ rfl _ 0 (cP 0 (.slice none 0 0)) rfl rfl HO rfl infoRV (Nat.le_refl _) (one_cP rfl) rfl ?_; clear HO; intro w6 HO)
       | fail)
      rw [HK.out]
      refine bodyPost_ret (v := .tuple #[.agg zV.toArray, .int .i64 13]) ?_ rfl (RetN.of HO.below ⟨rfl, rfl⟩)
      exact results2_blk rfl _ _ g4 zV _ rfl rfl (HO.at 3 rfl) _ Tryz.underlying40 rfl infoRV
     ·rw [decide_eq_false hh]
      have HKV2 := Yq (HKV.out hh); have HYM2 := Yq (HYM.out hh); have HRf := Yq (HDr.out.2.2.1 hh)
      have HbadE := Yq (fun b (hR : ado x1 (find v key) = .bad b) => HbadK.out b (keyR_bad hh (by rw [Hgo.out]; exact hR)))
      have HbadP := Yq (fun z (hR : ado x1 (find v key) = .ok z) (h3 : z.kind ≠ 0 ∧ ¬ (1 ≤ z.kind ∧ z.kind ≤ 3)) => HbadK.out 12 (keyR_kind hh (by rw [Hgo.out]; exact hR) h3))
      have HokE := Yq (HokK.out hh)
      clear hh HbadK HokK HKV HYM
      go_wp2_with fail
      go_simp
      go_cut [15, 16] from 104 to 151 (fun v10 v11 wx => DoCut F w ((g14, kc ++ ec) :: [(g12, yc), (g6, cP 0 (.slice none 0 0)), (g4, zV), (gx, vc), (g1, ec0)]) [] (fun h => VR h y yc) (ado x1 (find v key)) v10 v11 wx)
      case first =>
       replace HO : OwnF F w ((g14, kc ++ ec) :: [(g12, yc), (g6, cP 0 (.slice none 0 0)), (g4, zV), (gx, vc), (g1, ec0)]) [] (fun h => VR h y yc) w5.drew := HO.drew
       refine wp_region_G 11 (fun _ => True) (fun w' => Own w ((g14, kc ++ ec) :: [(g12, yc), (g6, cP 0 (.slice none 0 0)), (g4, zV), (gx, vc), (g1, ec0)]) w') (by kernel_rfl) trivial HO.own (fun _ => ?_)
       refine wpAnyG_take (i := 0) (v := .pointer (some ⟨g14, 7, none⟩)) rfl (by kernel_rfl) (fun _ _ _ h => h) (.inl ⟨by rfl, fun w hw => by go_simp⟩) (mkG HO.own) ?_
       refine fRefDo4A13_154 ?_
       refine wpAnyG_take (i := 1) (v := .agg ec.toArray) rfl (by kernel_rfl) (fun _ _ _ h => h) (yieldsIf_load_mid (by rfl) 52 _ rfl g14 7 (by go_simp) ec _ (fun w h => (h.2.at 0 rfl).range (p := kc) (q := ec) (r := []) (by simp) HLk.out) Tryz.underlying52 rfl (iC oREi HLx)) (mkG HO.own) ?_
       refine fRefDo4A13_154 ?_
       refine wpAnyG_take (i := 2) (v := .agg vc.toArray) rfl (by kernel_rfl) (fun _ _ _ h => h) (yieldsIf_load_mid (by rfl) 40 _ rfl gx 0 (by go_simp) vc _ (fun w h => (h.2.at 4 rfl).whole) Tryz.underlying40 rfl (iC infoRV HLv)) (mkG HO.own) ?_
       refine fRefDo4A13_154 ?_
       refine wpAnyG_take (i := 3) (v := .pointer (some ⟨g14, 0, none⟩)) rfl (by kernel_rfl) (fun _ _ _ h => h) (.inl ⟨by rfl, fun w hw => by go_simp⟩) (mkG HO.own) ?_
       refine fRefDo4A13_154 ?_
       refine wpAnyG_take (i := 4) (v := .agg kc.toArray) rfl (by kernel_rfl) (fun _ _ _ h => h) (yieldsIf_load_mid (by rfl) 40 _ rfl g14 0 (by go_simp) kc _ (fun w h => (h.2.at 0 rfl).range (p := []) (q := kc) (r := ec) rfl rfl) Tryz.underlying40 rfl (iC infoRV HLk)) (mkG HO.own) ?_
       refine fRefDo4A13_154 ?_
       refine wpAnyG_ready (rs := [5, 10]) (by kernel_rfl) (by simp) ?_
       refine AllReadyG.plain rfl rfl (fun K hK => ?_) (AllReadyG.plain rfl rfl (fun K hK => ?_) AllReadyG.nil)
       ·go_simp
        refine (rfind_ok (exF F _ _) v key key.kind vc kc _ (HO.lt HFw.out) Hvr.out.1 HKV2.out.1 HKV2.out.2 (Hv.out.mono HO.args) (HKx.out.mono HO.args)).mono ?_
        rintro e w6 ⟨gc, rfl, hy, hbq⟩
        replace HO := (HO.call hbq).read (MonoF.and HO.mono (VR.monoF (x := (find v key)) (c := gc))) (fun hr => ⟨hr, hy⟩)
        clear hy hbq
        refine hK.out _ _ (mkG HO.own) (fun _ => ?_)
        clear hK
        refine fRefDo4A13_154 ?_
        refine wpAnyG_ready (rs := [6, 10]) (by kernel_rfl) (by simp) ?_
        refine AllReadyG.plain rfl rfl (fun K hK => ?_) (AllReadyG.plain rfl rfl (fun K hK => ?_) AllReadyG.nil)
        ·go_simp
         refine (ih (exF F _ _) x1 (find v key) ec gc _ (HO.lt HFw.out) HDr.out.1 HDr.out.2.1 HRf.out HDr.out.2.2.2.1 HDr.out.2.2.2.2 (HX.out.mono HO.args) HO.rd.2).mono ?_
         rintro e w7 hR
         obtain ⟨cs, n, rfl, hcl, hc1, hbq, hrv⟩ := RetN.form hR
         replace HO := (HO.call hbq).read (MonoF.and HO.mono (RVn.monoF (r := (ado x1 (find v key))) (cs := cs) (n := n))) (fun hr => ⟨hr, hrv⟩)
         have Hcl := Yq hcl; have Hc1 := Yq hc1; clear hR hrv hcl hc1 hbq
         refine hK.out _ _ (mkG HO.own) (fun _ => ?_)
         clear hK
         refine fRefDo4A13_154 ?_
         refine wpAnyG_take (i := 7) (v := .tuple #[.agg cs.toArray, .int .i64 n]) rfl (by kernel_rfl) (fun _ _ _ h => h) (.inl ⟨by rfl, fun w hw => by go_simp⟩) (mkG HO.own) ?_
         refine fRefDo4A13_154 ?_
         refine wpAnyG_take (i := 8) (v := .agg cs.toArray) rfl (by kernel_rfl) (fun _ _ _ h => h) (.inl ⟨by rfl, fun w hw => by go_simp⟩) (mkG HO.own) ?_
         refine fRefDo4A13_154 ?_
         refine wpAnyG_take0 (i := 9) (v := .int .i64 n) rfl (by kernel_rfl) (fun _ _ _ h => h) (.inl ⟨by rfl, fun w hw => by go_simp⟩) (mkG HO.own) ?_
         refine fRefDo4A13_154 ?_
         refine rdG (i := 10) (by kernel_rfl) rfl rfl (fun K hK => ?_)
         refine wp_alloc_ownF 40 rfl zV zeroRV HO ?_
         clear HO; intro w8 g10 HO _ _
         refine hK.out _ _ (mkG (HO.own.tl)) (fun _ => ?_)
         clear hK
         refine fRefDo4A13_154 ?_
         refine rdG (i := 11) (by kernel_rfl) rfl rfl (fun K hK => ?_)
         refine wp_store_ownF 0 40 _ _ rfl g10 0 (.agg cs.toArray) cs (by go_simp) (by go_simp) rfl HO rfl (iC infoRV Hcl) (by rw [Hcl.out]; exact Nat.le_refl _) Hc1.out (patch_whole' _ _ (by rw [Hcl.out]; rfl)) ?_
         intro w9 HO9
         refine hK.out _ _ (InvG.past trivial (by kernel_rfl)) (fun _ => ?_)
         clear hK
         refine fRefDo4A13_154 ?_
         refine wpAnyG_take0 (i := 12) (v := .int .i64 n) rfl (by kernel_rfl) (fun _ _ _ h => h) (.inl ⟨by rfl, fun w hw => by go_simp⟩) (InvG.past trivial (by kernel_rfl)) ?_
         refine fRefDo4A13_154 ?_
         refine wpAnyG_done (by kernel_rfl) ?_ _
         have HCt := Yq (show DoCut F w ((g14, kc ++ ec) :: [(g12, yc), (g6, cP 0 (.slice none 0 0)), (g4, zV), (gx, vc), (g1, ec0)]) [] (fun h => VR h y yc) (ado x1 (find v key)) (.pointer (some ⟨g10, 0, none⟩)) (.int .i64 n) w9 from ⟨g10, cs, n, rfl, rfl, HO9.read (MonoF.and VR.monoF RVn.monoF) (fun hr => ⟨hr.1.1, hr.2⟩), Hcl.out, Hc1.out⟩)
         clear HO9 HO
         go_wp2_with fail
         go_meet
         exact HCt.out
        ·refine wp_alloc_ownF 40 rfl zV zeroRV HO ?_
         clear HO; intro w8 g10 HO _ _
         refine hK.out _ _ (mkG (HO.own.tl)) (fun _ => ?_)
         clear hK
         refine fRefDo4A13_154 ?_
         refine rdG (i := 6) (by kernel_rfl) rfl rfl (fun K hK => ?_)
         go_simp
         refine (ih (exF F _ _) x1 (find v key) ec gc _ (HO.lt HFw.out) HDr.out.1 HDr.out.2.1 HRf.out HDr.out.2.2.2.1 HDr.out.2.2.2.2 (HX.out.mono HO.args) HO.rd.2).mono ?_
         rintro e w7 hR
         obtain ⟨cs, n, rfl, hcl, hc1, hbq, hrv⟩ := RetN.form hR
         replace HO := (HO.call hbq).read (MonoF.and HO.mono (RVn.monoF (r := (ado x1 (find v key))) (cs := cs) (n := n))) (fun hr => ⟨hr, hrv⟩)
         have Hcl := Yq hcl; have Hc1 := Yq hc1; clear hR hrv hcl hc1 hbq
         refine hK.out _ _ (mkG (HO.own.tl)) (fun _ => ?_)
         clear hK
         refine fRefDo4A13_154 ?_
         refine wpAnyG_take (i := 7) (v := .tuple #[.agg cs.toArray, .int .i64 n]) rfl (by kernel_rfl) (fun _ _ _ h => h) (.inl ⟨by rfl, fun w hw => by go_simp⟩) (mkG (HO.own.tl)) ?_
         refine fRefDo4A13_154 ?_
         refine wpAnyG_take (i := 8) (v := .agg cs.toArray) rfl (by kernel_rfl) (fun _ _ _ h => h) (.inl ⟨by rfl, fun w hw => by go_simp⟩) (mkG (HO.own.tl)) ?_
         refine fRefDo4A13_154 ?_
         refine wpAnyG_take0 (i := 9) (v := .int .i64 n) rfl (by kernel_rfl) (fun _ _ _ h => h) (.inl ⟨by rfl, fun w hw => by go_simp⟩) (mkG (HO.own.tl)) ?_
         refine fRefDo4A13_154 ?_
         refine rdG (i := 11) (by kernel_rfl) rfl rfl (fun K hK => ?_)
         refine wp_store_ownF 0 40 _ _ rfl g10 0 (.agg cs.toArray) cs (by go_simp) (by go_simp) rfl HO rfl (iC infoRV Hcl) (by rw [Hcl.out]; exact Nat.le_refl _) Hc1.out (patch_whole' _ _ (by rw [Hcl.out]; rfl)) ?_
         intro w9 HO9
         refine hK.out _ _ (InvG.past trivial (by kernel_rfl)) (fun _ => ?_)
         clear hK
         refine fRefDo4A13_154 ?_
         refine wpAnyG_take0 (i := 12) (v := .int .i64 n) rfl (by kernel_rfl) (fun _ _ _ h => h) (.inl ⟨by rfl, fun w hw => by go_simp⟩) (InvG.past trivial (by kernel_rfl)) ?_
         refine fRefDo4A13_154 ?_
         refine wpAnyG_done (by kernel_rfl) ?_ _
         have HCt := Yq (show DoCut F w ((g14, kc ++ ec) :: [(g12, yc), (g6, cP 0 (.slice none 0 0)), (g4, zV), (gx, vc), (g1, ec0)]) [] (fun h => VR h y yc) (ado x1 (find v key)) (.pointer (some ⟨g10, 0, none⟩)) (.int .i64 n) w9 from ⟨g10, cs, n, rfl, rfl, HO9.read (MonoF.and VR.monoF RVn.monoF) (fun hr => ⟨hr.1.1, hr.2⟩), Hcl.out, Hc1.out⟩)
         clear HO9 HO
         go_wp2_with fail
         go_meet
         exact HCt.out
       ·refine wp_alloc_ownF 40 rfl zV zeroRV HO ?_
        clear HO; intro w8 g10 HO _ _
        refine hK.out _ _ (mkG (HO.own.tl)) (fun _ => ?_)
        clear hK
        refine fRefDo4A13_154 ?_
        refine rdG (i := 5) (by kernel_rfl) rfl rfl (fun K hK => ?_)
        go_simp
        refine (rfind_ok (exF F _ _) v key key.kind vc kc _ (HO.lt HFw.out) Hvr.out.1 HKV2.out.1 HKV2.out.2 (Hv.out.mono HO.args) (HKx.out.mono HO.args)).mono ?_
        rintro e w6 ⟨gc, rfl, hy, hbq⟩
        replace HO := (HO.call hbq).read (MonoF.and HO.mono (VR.monoF (x := (find v key)) (c := gc))) (fun hr => ⟨hr, hy⟩)
        clear hy hbq
        refine hK.out _ _ (mkG (HO.own.tl)) (fun _ => ?_)
        clear hK
        refine fRefDo4A13_154 ?_
        refine rdG (i := 6) (by kernel_rfl) rfl rfl (fun K hK => ?_)
        go_simp
        refine (ih (exF F _ _) x1 (find v key) ec gc _ (HO.lt HFw.out) HDr.out.1 HDr.out.2.1 HRf.out HDr.out.2.2.2.1 HDr.out.2.2.2.2 (HX.out.mono HO.args) HO.rd.2).mono ?_
        rintro e w7 hR
        obtain ⟨cs, n, rfl, hcl, hc1, hbq, hrv⟩ := RetN.form hR
        replace HO := (HO.call hbq).read (MonoF.and HO.mono (RVn.monoF (r := (ado x1 (find v key))) (cs := cs) (n := n))) (fun hr => ⟨hr, hrv⟩)
        have Hcl := Yq hcl; have Hc1 := Yq hc1; clear hR hrv hcl hc1 hbq
        refine hK.out _ _ (mkG (HO.own.tl)) (fun _ => ?_)
        clear hK
        refine fRefDo4A13_154 ?_
        refine wpAnyG_take (i := 7) (v := .tuple #[.agg cs.toArray, .int .i64 n]) rfl (by kernel_rfl) (fun _ _ _ h => h) (.inl ⟨by rfl, fun w hw => by go_simp⟩) (mkG (HO.own.tl)) ?_
        refine fRefDo4A13_154 ?_
        refine wpAnyG_take (i := 8) (v := .agg cs.toArray) rfl (by kernel_rfl) (fun _ _ _ h => h) (.inl ⟨by rfl, fun w hw => by go_simp⟩) (mkG (HO.own.tl)) ?_
        refine fRefDo4A13_154 ?_
        refine wpAnyG_take0 (i := 9) (v := .int .i64 n) rfl (by kernel_rfl) (fun _ _ _ h => h) (.inl ⟨by rfl, fun w hw => by go_simp⟩) (mkG (HO.own.tl)) ?_
        refine fRefDo4A13_154 ?_
        refine rdG (i := 11) (by kernel_rfl) rfl rfl (fun K hK => ?_)
        refine wp_store_ownF 0 40 _ _ rfl g10 0 (.agg cs.toArray) cs (by go_simp) (by go_simp) rfl HO rfl (iC infoRV Hcl) (by rw [Hcl.out]; exact Nat.le_refl _) Hc1.out (patch_whole' _ _ (by rw [Hcl.out]; rfl)) ?_
        intro w9 HO9
        refine hK.out _ _ (InvG.past trivial (by kernel_rfl)) (fun _ => ?_)
        clear hK
        refine fRefDo4A13_154 ?_
        refine wpAnyG_take0 (i := 12) (v := .int .i64 n) rfl (by kernel_rfl) (fun _ _ _ h => h) (.inl ⟨by rfl, fun w hw => by go_simp⟩) (InvG.past trivial (by kernel_rfl)) ?_
        refine fRefDo4A13_154 ?_
        refine wpAnyG_done (by kernel_rfl) ?_ _
        have HCt := Yq (show DoCut F w ((g14, kc ++ ec) :: [(g12, yc), (g6, cP 0 (.slice none 0 0)), (g4, zV), (gx, vc), (g1, ec0)]) [] (fun h => VR h y yc) (ado x1 (find v key)) (.pointer (some ⟨g10, 0, none⟩)) (.int .i64 n) w9 from ⟨g10, cs, n, rfl, rfl, HO9.read (MonoF.and VR.monoF RVn.monoF) (fun hr => ⟨hr.1.1, hr.2⟩), Hcl.out, Hc1.out⟩)
        clear HO9 HO
        go_wp2_with fail
        go_meet
        exact HCt.out
      case rest =>
       obtain ⟨g10, cs, n, rfl, rfl, HOc, hcl, hc1⟩ := hcut
       have Hcl := Yq hcl; have Hc1 := Yq hc1
       clear HO hcl hc1
       have HO := HOc
       clear HOc
       generalize hR : ado x1 (find v key) = rr at *
       cases rr with
       | bad b =>
        have HK : Hid (R0 = .bad b) := HbadE.out b rfl
        obtain ⟨rfl, rfl⟩ := HO.rd.2
        have hb := Hbne.out b rfl
        have hq : ((b : Int) == 0) = false := by rw [beq_eq_false_iff_ne]; omega
        have hq2 : ¬ (b : Int) = 0 := by omega
        clear hb HbadE HbadP HokE Hbne
        have hnn := (HO.at 3 rfl).whole
        go_wp2_with (first
         | ((with_reducible refine atOp (.load 40 _) ?_); refine wpList_load_seg rfl 40 _ rfl _ _ rfl _ _ hnn Tryz.underlying40 rfl infoRV ?_)
         | ((with_reducible refine atOp (.store 40 _ _) ?_); refine wpList_store_ownF 4 rfl 40 _ _ rfl _ 0 (cP 0 (.slice none 0 0)) rfl rfl HO rfl infoRV (Nat.le_refl _) (one_cP rfl) rfl ?_; clear HO; intro w6 HO)
         | fail)
        rw [HK.out]
        refine bodyPost_ret (v := .tuple #[.agg zV.toArray, .int .i64 (b : Int)]) ?_ rfl (RetN.of HO.below ⟨rfl, rfl⟩)
        exact results2_blk rfl _ _ g4 zV _ rfl rfl (HO.at 4 rfl) _ Tryz.underlying40 rfl infoRV
       | ok z =>
        obtain ⟨rfl, hz⟩ := HO.rd.2
        have HBP := Yq (HbadP.out z rfl); have HOK := Yq (HokE.out z rfl)
        have HP := Yq (rpart23_any z cs wc (hz.mono (fragE_le _ _)))
        have hk9 := (HO.at 0 rfl).cell hz.k0
        have hxx := (HO.at 0 rfl).whole
        obtain ⟨w8, hw8⟩ : ∃ z, z = wc := ⟨wc, rfl⟩
        rw [← hw8] at HO HP hk9 hxx ⊢
        generalize hzk : z.kind = zk at *
        have HZK := Yq hzk
        clear hzk hz HbadE HbadP HokE Hbne hw8
        go_upto_region 38 with (fail)
        go_cut [144] from 104 to 151 (fun s60 wx => s60 = .bool (decide (zk ≠ 0 ∧ ¬ (1 ≤ zk ∧ zk ≤ 3))) ∧ Below w8.heap.size w8 wx)
        case first =>
         clear hkn
         by_cases hk0 : zk = 0
         ·subst hk0
          go_wp2_with fail
          go_meet
          exact ⟨by simp, Below.refl _ _⟩
         ·by_cases hk1 : 1 ≤ zk ∧ zk ≤ 3
          ·rw [decide_eq_true hk1] at HP
           have Hk : Hid (decide (zk ≠ 0 ∧ ¬ (1 ≤ zk ∧ zk ≤ 3)) = false) := decide_eq_false (fun h => h.2 hk1)
           clear hk1
           go_wp2_with (first
            | ((with_reducible refine atOp (.load 40 _) ?_); refine wpList_load_seg rfl 40 _ rfl _ _ rfl _ _ hxx Tryz.underlying40 rfl (iC infoRV Hcl) ?_)
            | (go_at_call 50; (with_reducible refine HP.out.mono ?_); rintro e w6 ⟨rfl, hb6⟩))
           go_meet
           exact ⟨by rw [Hk.out], hb6⟩
          ·rw [decide_eq_false hk1] at HP
           have Hk : Hid (decide (zk ≠ 0 ∧ ¬ (1 ≤ zk ∧ zk ≤ 3)) = true) := decide_eq_true ⟨hk0, hk1⟩
           clear hk1
           go_wp2_with (first
            | ((with_reducible refine atOp (.load 40 _) ?_); refine wpList_load_seg rfl 40 _ rfl _ _ rfl _ _ hxx Tryz.underlying40 rfl (iC infoRV Hcl) ?_)
            | (go_at_call 50; (with_reducible refine HP.out.mono ?_); rintro e w6 ⟨rfl, hb6⟩))
           go_meet
           exact ⟨by rw [Hk.out], hb6⟩
        case rest =>
         obtain ⟨rfl, hb9⟩ := hcut
         have HOq := HO.call hb9
         clear HO hb9 hk9 hxx
         have HO := HOq
         clear HOq
         by_cases hq : zk ≠ 0 ∧ ¬ (1 ≤ zk ∧ zk ≤ 3)
         ·have HK : Hid (R0 = .bad 12) := HBP.out hq
          rw [decide_eq_true hq]
          clear hq
          have hnn := (HO.at 3 rfl).whole
          go_wp2_with (first
           | ((with_reducible refine atOp (.load 40 _) ?_); refine wpList_load_seg rfl 40 _ rfl _ _ rfl _ _ hnn Tryz.underlying40 rfl infoRV ?_)
           | ((with_reducible refine atOp (.store 40 _ _) ?_); refine wpList_store_ownF 4 rfl 40 _ _ rfl _ 0 (cP 0 (.slice none 0 0)) rfl rfl HO rfl infoRV (Nat.le_refl _) (one_cP rfl) rfl ?_; clear HO; intro w6 HO)
           | fail)
          rw [HK.out]
          refine bodyPost_ret (v := .tuple #[.agg zV.toArray, .int .i64 12]) ?_ rfl (RetN.of HO.below ⟨rfl, rfl⟩)
          exact results2_blk rfl _ _ g4 zV _ rfl rfl (HO.at 4 rfl) _ Tryz.underlying40 rfl infoRV
         ·have HI' := Yq (HOK.out hq)
          rw [decide_eq_false hq]
          have HLy := Yq HO.rd.1.len
          have HW := Yq (rput_ok (exF F _ _) y z key key.kind yc kc cs _ (HO.lt HFw.out) HYM2.out HKV2.out.2 HYK.out.2 HO.rd.1 (HKx.out.mono HO.args) HO.rd.2.2)
          have hyy := (HO.at 2 rfl).whole
          have hxx := (HO.at 0 rfl).whole
          have hkk : wc.rangeAt g14 0 kc := (HO.at 1 rfl).range (p := []) (q := kc) (r := ec) rfl rfl
          clear hq
          go_wp2_with (first
           | ((with_reducible refine atOp (.load 40 _) ?_); refine wpList_load_seg rfl 40 _ rfl _ _ rfl _ _ (by first | exact hyy | exact hxx | exact hkk) Tryz.underlying40 rfl ?_ ?_; (· first | exact iC infoRV HLy | exact iC infoRV Hcl | exact iC infoRV HLk))
           | (go_at_call 51; (with_reducible refine HW.out.mono ?_); rintro e w6 ⟨yc2, rfl, hy, hbq⟩; have HOq := (HO.call hbq).read (MonoF.and HO.mono (VR.monoF (x := putV y key z) (c := yc2))) (fun hr => ⟨hr, hy⟩); clear HO; have HO := HOq; have HLq := Yq hy.len; have HO1q := Yq hy.ones; clear HOq hy hbq hyy hxx hkk)
           | ((with_reducible refine atOp (.store 40 _ _) ?_); refine wpList_store_ownF 2 rfl 40 _ _ rfl _ 0 yc2 rfl rfl HO rfl (iC infoRV HLq) (by rw [HLq.out, HLy.out]; decide) HO1q.out (patch_whole' _ _ (by rw [HLq.out, HLy.out])) ?_; clear HO; intro w7 HO)
           | fail)
          have HOn : Hid (OwnF F w [(g12, yc2), (g6, cP 0 (.slice none 0 0)), (g4, zV), (gx, vc), (g1, ec0)] [] (fun h => VR h (putV y key z) yc2) w7) := Yq ((HO.read VR.monoF (fun hr => hr.2)).sub (.cons _ (.cons _ (List.Sublist.refl _))))
          go_roundw
          case rel => exact ⟨k + 1, putV y key z, yc2, by omega, by go_num, HI', HOn⟩
          case measure => simp [intOf]; omega
   ·obtain rfl : k = ns := by omega
    have HK : Hid (R0 = .ok y) := Yq (by rw [HR0.out]; exact BookInv.fin (by rw [← Hm3.out, Hn.out]; exact HI.out.1.1))
    have HLy := Yq HO.rd.len; have HOy := Yq HO.rd.ones
    have hyy := (HO.at 0 rfl).whole
    clear hlt hkn HI
    go_wp2_with (first
     | ((with_reducible refine atOp (.load 40 _) ?_); refine wpList_load_seg rfl 40 _ rfl _ _ rfl _ _ hyy Tryz.underlying40 rfl (iC infoRV HLy) ?_)
     | ((with_reducible refine atOp (.store 40 _ _) ?_); refine wpList_store_ownF 2 rfl 40 _ _ rfl _ 0 (yc) rfl rfl HO rfl (iC infoRV HLy) (by rw [HLy.out]; decide) HOy.out (patch_whole' _ _ (by rw [HLy.out]; rfl)) ?_; clear HO; intro w6 HO)
     | fail)
    rw [HK.out]
    refine bodyPost_ret (v := .tuple #[.agg yc.toArray, .int .i64 0]) ?_ rfl (RetN.of HO.below ⟨rfl, HO.done⟩)
    exact results2_blk rfl _ _ g4 yc _ rfl rfl (HO.at 2 rfl) _ Tryz.underlying40 rfl (iC infoRV HLy)
end Go.Proofs.YtebekgdjknenlaaGreatDoor
