/- The law ApplyValues, walked: it answers true and leaves the old memory alone. -/
import Derived.Test.YtebekgdjknenlaaGreatDoorRefDoAll
import Derived.Test.YtebekgdjknenlaaGreatDoorOf21
import Derived.Test.YtebekgdjknenlaaGreatDoorGpBC
import Derived.Test.YtebekgdjknenlaaGreatDoorOpen
set_option maxRecDepth 100000
set_option maxHeartbeats 8000000
set_option linter.unusedVariables false
set_option linter.unusedSimpArgs false
namespace Go.Proofs.YtebekgdjknenlaaGreatDoor
open Go.RowKit
open Val (gr ge V E right cmp eright ado adoF adoS adoK Res avalue esm esmF esmS esmK vmx esz eszF eszS eszK efields esteps ekeys get find withV putV mkM mkP mkL partB setRest headKind KI KP KeysOf allF allS allK)
theorem fApplyValuesLawA10_57 {P : Program} {M : Region.Mode} {O : Array Oper} {Q : Exit → Act → World → Prop} {Y Z : World → Prop} {f F : Nat} {a b c e g i j k l m : Bool} {n o p q r s t u v x y z a0 a1 a2 a3 a4 a5 a6 a7 a8 a9 aA aB aC aD aE aF aG aH aI aJ aK aL aM aN aO aP aQ aR aS aT aU aV aW aX aY aZ b0 b1 b2 b3 b4 b5 b6 b7 b8 : Value} {d} {w : World} (h : wpAnyG P M O Q Y Z f F #[a,b,c,e,g,i,j,k,l,m] ⟨#[n,o,p,q,r,s,t,u,v,x,y,z,a0,a1,a2,a3,a4,a5,a6,a7,a8,a9,aA,aB,aC,aD,aE,aF,aG,aH,aI,aJ,aK,aL,aM,aN,aO,aP,aQ,aR,aS,aT,aU,aV,aW,aX,aY,aZ,b0,b1,b2,b3,b4,b5,b6,b7,b8],d⟩ w) : wpAnyG P M O Q Y Z f F #[a,b,c,e,g,i,j,k,l,m] ⟨#[n,o,p,q,r,s,t,u,v,x,y,z,a0,a1,a2,a3,a4,a5,a6,a7,a8,a9,aA,aB,aC,aD,aE,aF,aG,aH,aI,aJ,aK,aL,aM,aN,aO,aP,aQ,aR,aS,aT,aU,aV,aW,aX,aY,aZ,b0,b1,b2,b3,b4,b5,b6,b7,b8],d⟩ w := h
theorem fApplyValuesLawA25_57 {P : Program} {M : Region.Mode} {O : Array Oper} {Q : Exit → Act → World → Prop} {Y Z : World → Prop} {f F : Nat} {a b c e g i j k l m n o p q r s t u v x y z a0 a1 a2 : Bool} {a3 a4 a5 a6 a7 a8 a9 aA aB aC aD aE aF aG aH aI aJ aK aL aM aN aO aP aQ aR aS aT aU aV aW aX aY aZ b0 b1 b2 b3 b4 b5 b6 b7 b8 b9 bA bB bC bD bE bF bG bH bI bJ bK bL bM bN : Value} {d} {w : World} (h : wpAnyG P M O Q Y Z f F #[a,b,c,e,g,i,j,k,l,m,n,o,p,q,r,s,t,u,v,x,y,z,a0,a1,a2] ⟨#[a3,a4,a5,a6,a7,a8,a9,aA,aB,aC,aD,aE,aF,aG,aH,aI,aJ,aK,aL,aM,aN,aO,aP,aQ,aR,aS,aT,aU,aV,aW,aX,aY,aZ,b0,b1,b2,b3,b4,b5,b6,b7,b8,b9,bA,bB,bC,bD,bE,bF,bG,bH,bI,bJ,bK,bL,bM,bN],d⟩ w) : wpAnyG P M O Q Y Z f F #[a,b,c,e,g,i,j,k,l,m,n,o,p,q,r,s,t,u,v,x,y,z,a0,a1,a2] ⟨#[a3,a4,a5,a6,a7,a8,a9,aA,aB,aC,aD,aE,aF,aG,aH,aI,aJ,aK,aL,aM,aN,aO,aP,aQ,aR,aS,aT,aU,aV,aW,aX,aY,aZ,b0,b1,b2,b3,b4,b5,b6,b7,b8,b9,bA,bB,bC,bD,bE,bF,bG,bH,bI,bJ,bK,bL,bM,bN],d⟩ w := h
def vOf (r : Res V) : V := match r with | .ok x => x | .bad _ => Val.v0
def nOf (r : Res V) : Int := match r with | .ok _ => 0 | .bad b => b
def eOf (er : Errs) (r : Res V) : Value := match r with | .ok _ => .nilIface | .bad b => er.of b
theorem RetR.form2 {er : Errs} {F : List (Option Nat)} {w w' : World} {r : Res V} {e : Ending} (h : RetR er F w r e w') : ∃ cs, e = .returned (.tuple #[.agg cs.toArray, eOf er r]) ∧ Below w.heap.size w w' ∧ VR (fragE w' F) (vOf r) cs := by
 obtain ⟨hb, h⟩ := h
 cases r with
 | bad b => exact ⟨zV, h, hb, v0_any _⟩
 | ok x => obtain ⟨xc, rfl, hx⟩ := h; exact ⟨xc, rfl, hb, hx⟩
theorem RVn.form2 {h : Frag} {r : Res V} {cs : List Value} {n : Int} (hr : RVn h r cs n) : VR h (vOf r) cs ∧ n = nOf r := by
 cases r with
 | bad b => obtain ⟨rfl, rfl⟩ := hr; exact ⟨v0_any _, rfl⟩
 | ok x => obtain ⟨rfl, hx⟩ := hr; exact ⟨hx, rfl⟩
theorem avalue_bad {e : E} {v : V} {b : Nat} (h : avalue e v = .bad b) : b = 9 ∨ b = 12 ∨ b = 13 := by
 unfold avalue at h
 split at h
 ·exact .inr (Val.ado_bad e v b h)
 ·cases h; exact .inl rfl
theorem avalue_vmx {e : E} {v : V} (hb : vmx v + esz e ≤ 90000) : vmx (vOf (avalue e v)) ≤ 90000 := by
 cases h : avalue e v with
 | bad b => show vmx Val.v0 ≤ _; rw [Val.vmx_v0]; exact Nat.zero_le _
 | ok x =>
  show vmx x ≤ _
  unfold avalue at h
  split at h
  ·have := Val.ado_vmx e v x h; omega
  ·cases h
def erN (A : Nat → Addr) : Errs := ⟨156, .pointer (some (A 8)), 156, .pointer (some (A 11)), 156, .pointer (some (A 12))⟩
theorem erN_at {A : Nat → Addr} {w : World} (h : NE A w) : ErrsAt (erN A) w := ⟨h.cell 8 (by decide), h.cell 11 (by decide), h.cell 12 (by decide)⟩
theorem num_of (A : Nat → Addr) (w : World) (h : NE A w) (r : Res V) (hr : ∀ b, r = .bad b → b = 9 ∨ b = 12 ∨ b = 13) :
  Calls Tryz.prog 11 #[eOf (erN A) r] w fun e w' => e = .returned (.int .i64 (nOf r)) ∧ Below w.heap.size w w' := by
 cases r with
 | ok x => exact num_nil w
 | bad b =>
  rcases hr b rfl with rfl | rfl | rfl
  ·exact num_err A w h 8 (by decide)
  ·exact num_err A w h 11 (by decide)
  ·exact num_err A w h 12 (by decide)
theorem fits_num (r : Res V) (hr : ∀ b, r = .bad b → b = 9 ∨ b = 12 ∨ b = 13) : r.isOk = (nOf r == 0) := by
 cases r with
 | ok x => rfl
 | bad b =>
  have := hr b rfl
  symm
  exact beq_eq_false_iff_ne.2 (fun e => by have e : (b : Int) = 0 := e; omega)
theorem applyValues_at (A : Nat → Addr) (w : World) (h : NE A w) (x : E) (v : V) (ec vc : List Value) (hx : ER (frag w) x ec) (hv : VR (frag w) v vc) :
  Calls Tryz.prog 3 #[.agg ec.toArray, .agg vc.toArray] w fun e w' => e = .returned (.bool true) ∧ Below w.heap.size w w' := by
 have HNE := Yq (fun (wx : World) (hb : Below w.heap.size w wx) => h.keep hb)
 have HER := Yq (fun (wx : World) (hb : Below w.heap.size w wx) => erN_at (h.keep hb))
 have HAl := Yq (fun (wx : World) (hb : Below w.heap.size w wx) => alive_any (erN A) wx (HER.out wx hb))
 have HG1 := Yq (fun (wx : World) (hb : Below w.heap.size w wx) => Great21_any x ec wx 80 (hx.mono (below_le hb)) (by decide) (by decide))
 have HG2 := Yq (fun (wx : World) (hb : Below w.heap.size w wx) => Great13_any v vc wx 80 (hv.mono (below_le hb)) (by decide) (by decide))
 have HLe := Yq hx.len; have HLv := Yq hv.len
 rw [← fragE_nil] at hx hv
 have HX := Yq hx; have HV := Yq hv
 clear hx hv h
 by_cases h1 : ge x 80 20 < 0
 ·rw [decide_eq_true h1] at HG1
  go_enter Tryz.func3, Tryz.ntmps3
  have HO := OwnF.start (Own.nil w) [] [] (fun r hr => by cases hr)
  go_upto_region 1 with (first
   | ((with_reducible refine atOp (.box 32 _) ?_); refine wpList_box_ownF rfl 32 _ rfl ec rfl HO ?_; clear HO; intro w1 g2 HO)
   | ((with_reducible refine atOp (.box 27 _) ?_); refine wpList_box_ownF rfl 27 _ rfl vc rfl HO ?_; clear HO; intro w2 g3 HO)
   | fail)
  have hee := (HO.at 1 rfl).whole
  have hvv := (HO.at 0 rfl).whole
  go_wp2_with (first
  | (go_at_call 4; (with_reducible refine (HAl.out _ HO.below).mono ?_); rintro e w3 ⟨rfl, hbq⟩; have HOq := HO.call hbq; clear HO hbq hee hvv; have HO := HOq; clear HOq; have hee := (HO.at 1 rfl).whole; have hvv := (HO.at 0 rfl).whole)
  | ((with_reducible refine atOp (.load 32 _) ?_); refine wpList_load_seg rfl 32 _ rfl _ _ rfl _ _ hee Tryz.underlying32 rfl (iC infoE HLe) ?_)
  | (go_at_call 5; (with_reducible refine (HG1.out _ HO.below).mono ?_); rintro e w4 ⟨rfl, hbq⟩; have HOq := HO.call hbq; clear HO hbq hee hvv; have HO := HOq; clear HOq; have hee := (HO.at 1 rfl).whole; have hvv := (HO.at 0 rfl).whole)
  | fail)
  go_ret
  exact ⟨rfl, HO.below⟩
 rw [decide_eq_false h1] at HG1
 by_cases h2 : gr v 80 30 < 0
 ·rw [decide_eq_true h2] at HG2
  go_enter Tryz.func3, Tryz.ntmps3
  have HO := OwnF.start (Own.nil w) [] [] (fun r hr => by cases hr)
  go_upto_region 1 with (first
   | ((with_reducible refine atOp (.box 32 _) ?_); refine wpList_box_ownF rfl 32 _ rfl ec rfl HO ?_; clear HO; intro w1 g2 HO)
   | ((with_reducible refine atOp (.box 27 _) ?_); refine wpList_box_ownF rfl 27 _ rfl vc rfl HO ?_; clear HO; intro w2 g3 HO)
   | fail)
  have hee := (HO.at 1 rfl).whole
  have hvv := (HO.at 0 rfl).whole
  go_wp2_with (first
  | (go_at_call 4; (with_reducible refine (HAl.out _ HO.below).mono ?_); rintro e w3 ⟨rfl, hbq⟩; have HOq := HO.call hbq; clear HO hbq hee hvv; have HO := HOq; clear HOq; have hee := (HO.at 1 rfl).whole; have hvv := (HO.at 0 rfl).whole)
  | ((with_reducible refine atOp (.load 32 _) ?_); refine wpList_load_seg rfl 32 _ rfl _ _ rfl _ _ hee Tryz.underlying32 rfl (iC infoE HLe) ?_)
  | ((with_reducible refine atOp (.load 27 _) ?_); refine wpList_load_seg rfl 27 _ rfl _ _ rfl _ _ hvv Tryz.underlying27 rfl (iC infoV HLv) ?_)
  | (go_at_call 5; (with_reducible refine (HG1.out _ HO.below).mono ?_); rintro e w4 ⟨rfl, hbq⟩; have HOq := HO.call hbq; clear HO hbq hee hvv; have HO := HOq; clear HOq; have hee := (HO.at 1 rfl).whole; have hvv := (HO.at 0 rfl).whole)
  | (go_at_call 6; (with_reducible refine (HG2.out _ HO.below).mono ?_); rintro e w4 ⟨rfl, hbq⟩; have HOq := HO.call hbq; clear HO hbq hee hvv; have HO := HOq; clear HOq; have hee := (HO.at 1 rfl).whole; have hvv := (HO.at 0 rfl).whole)
  | fail)
  go_ret
  exact ⟨rfl, HO.below⟩
 rw [decide_eq_false h2] at HG2
 have g1 := Val.ge_esz x 80 20 (by decide) (by omega)
 have g2 := Val.gr_vmx v 80 30 (by decide) (by omega)
 have HB : Hid ((esm x ∧ Val.evsm x) ∧ Val.vsm v ∧ vmx v + esz x ≤ 90000) := ⟨⟨g1.2, Val.ge_evsm x 80 20 (by decide) (by omega)⟩, Val.gr_vsm v 80 30 (by decide) (by decide) (by omega), by omega⟩
 have HBd : Hid (∀ b, avalue x v = .bad b → b = 9 ∨ b = 12 ∨ b = 13) := Yq (fun b hb => avalue_bad hb)
 have HVx := Yq (avalue_vmx HB.out.2.2)
 have HFz := Yq (fits_num (avalue x v) HBd.out)
 clear g1 g2 h1 h2
 go_enter Tryz.func3, Tryz.ntmps3
 have HO := OwnF.start (Own.nil w) [] [] (fun r hr => by cases hr)
 go_upto_region 1 with (first
  | ((with_reducible refine atOp (.box 32 _) ?_); refine wpList_box_ownF rfl 32 _ rfl ec rfl HO ?_; clear HO; intro w1 g2 HO)
  | ((with_reducible refine atOp (.box 27 _) ?_); refine wpList_box_ownF rfl 27 _ rfl vc rfl HO ?_; clear HO; intro w2 g3 HO)
  | fail)
 have hee := (HO.at 1 rfl).whole
 have hvv := (HO.at 0 rfl).whole
 go_upto_region 5 with (first
  | (go_at_call 4; (with_reducible refine (HAl.out _ HO.below).mono ?_); rintro e w3 ⟨rfl, hbq⟩; have HOq := HO.call hbq; clear HO hbq hee hvv; have HO := HOq; clear HOq; have hee := (HO.at 1 rfl).whole; have hvv := (HO.at 0 rfl).whole)
  | ((with_reducible refine atOp (.load 32 _) ?_); refine wpList_load_seg rfl 32 _ rfl _ _ rfl _ _ hee Tryz.underlying32 rfl (iC infoE HLe) ?_)
  | ((with_reducible refine atOp (.load 27 _) ?_); refine wpList_load_seg rfl 27 _ rfl _ _ rfl _ _ hvv Tryz.underlying27 rfl (iC infoV HLv) ?_)
  | (go_at_call 5; (with_reducible refine (HG1.out _ HO.below).mono ?_); rintro e w4 ⟨rfl, hbq⟩; have HOq := HO.call hbq; clear HO hbq hee hvv; have HO := HOq; clear HOq; have hee := (HO.at 1 rfl).whole; have hvv := (HO.at 0 rfl).whole)
  | (go_at_call 6; (with_reducible refine (HG2.out _ HO.below).mono ?_); rintro e w4 ⟨rfl, hbq⟩; have HOq := HO.call hbq; clear HO hbq hee hvv; have HO := HOq; clear HOq; have hee := (HO.at 1 rfl).whole; have hvv := (HO.at 0 rfl).whole)
  | fail)
 have HW := Yq (rof_any (exF [] _ _) v vc _ (HO.lt (fun _ h => by cases h)) (by have := HB.out.2.2; omega) (HV.out.mono HO.args))
 go_upto_region 6 with (first
  | ((with_reducible refine atOp (.load 27 _) ?_); refine wpList_load_seg rfl 27 _ rfl _ _ rfl _ _ hvv Tryz.underlying27 rfl (iC infoV HLv) ?_)
  | (go_at_call 7; (with_reducible refine HW.out.mono ?_); rintro e w6 ⟨c5, rfl, hy, hbq⟩; have HOq := (HO.call hbq).read (VR.monoF (x := v) (c := c5)) (fun _ => hy); clear HO; have HO := HOq; have HL5 := Yq hy.len; have HO5 := Yq hy.ones; clear HOq hy hbq hee hvv HW)
  | ((with_reducible refine atOp (.alloc 40) ?_); refine wpList_alloc_ownF rfl 40 rfl zV zeroRV HO ?_; clear HO; intro w7 g5 HO)
  | ((with_reducible refine atOp (.store 40 _ _) ?_); refine wpList_store_ownF 0 rfl 40 _ _ rfl _ 0 (c5) rfl rfl HO rfl (iC infoRV HL5) (by rw [HL5.out]; decide) HO5.out (patch_whole' _ _ (by rw [HL5.out]; rfl)) ?_; clear HO; intro w8 HO)
  | fail)
 have HO8 : Hid (OwnF [] w [(g5, c5), (g3, vc), (g2, ec)] [] (fun h => VR h v c5) w8) := HO
 clear HO
 have HO := HO8.out
 clear HO8
 have hee := (HO.at 2 rfl).whole
 have hvv := (HO.at 1 rfl).whole
 have HW := Yq (value_any (erN A) (exF [] _ _) x v ec vc _ (HO.lt (fun _ h => by cases h)) HB.out.1.1 HB.out.2.2 (HER.out _ HO.below) (HX.out.mono HO.args) (HV.out.mono HO.args))
 go_upto_region 7 with (first
  | ((with_reducible refine atOp (.load 32 _) ?_); refine wpList_load_seg rfl 32 _ rfl _ _ rfl _ _ hee Tryz.underlying32 rfl (iC infoE HLe) ?_)
  | ((with_reducible refine atOp (.load 27 _) ?_); refine wpList_load_seg rfl 27 _ rfl _ _ rfl _ _ hvv Tryz.underlying27 rfl (iC infoV HLv) ?_)
  | (go_at_call 8; (with_reducible refine HW.out.mono ?_); rintro e w9 hR; obtain ⟨c6, rfl, hbq, hy⟩ := RetR.form2 hR; have HOq := (HO.call hbq).read (MonoF.and HO.mono (VR.monoF (x := vOf (avalue x v)) (c := c6))) (fun hr => ⟨hr, hy⟩); clear HO; have HO := HOq; have HL6 := Yq hy.len; have HO6 := Yq hy.ones; clear HOq hy hbq hR hee hvv HW)
  | ((with_reducible refine atOp (.alloc 27) ?_); refine wpList_alloc_ownF rfl 27 rfl zV zeroV HO ?_; clear HO; intro w10 g6 HO)
  | ((with_reducible refine atOp (.store 27 _ _) ?_); refine wpList_store_ownF 0 rfl 27 _ _ rfl _ 0 c6 rfl rfl HO rfl (iC infoV HL6) (by rw [HL6.out]; decide) HO6.out (patch_whole' _ _ (by rw [HL6.out]; rfl)) ?_; clear HO; intro w11 HO)
  | fail)
 have HO11 : Hid (OwnF [] w [(g6, c6), (g5, c5), (g3, vc), (g2, ec)] [] (fun h => VR h v c5 ∧ VR h (vOf (avalue x v)) c6) w11) := HO
 clear HO
 have HO := HO11.out
 clear HO11
 go_simp
 go_cut [8, 9] from 8 to 32 (fun v8 v9 wx => DoCut [] w [(g6, c6), (g5, c5), (g3, vc), (g2, ec)] [] (fun h => VR h v c5 ∧ VR h (vOf (avalue x v)) c6) (avalue x v) v8 v9 wx)
 case first =>
  replace HO : OwnF [] w [(g6, c6), (g5, c5), (g3, vc), (g2, ec)] [] (fun h => VR h v c5 ∧ VR h (vOf (avalue x v)) c6) w11.drew := HO.drew
  refine wp_region_G 8 (fun _ => True) (fun w' => Own w [(g6, c6), (g5, c5), (g3, vc), (g2, ec)] w') (by kernel_rfl) trivial HO.own (fun _ => ?_)
  refine wpAnyG_take (i := 0) (v := .agg ec.toArray) rfl (by kernel_rfl) (fun _ _ _ h => h) (yieldsIf_load_mid (by rfl) 32 _ rfl g2 0 (by go_simp) ec _ (fun w h => (h.2.at 3 rfl).whole) Tryz.underlying32 rfl (iC infoE HLe)) (mkG HO.own) ?_
  refine fApplyValuesLawA10_57 ?_
  refine wpAnyG_take (i := 2) (v := .agg c5.toArray) rfl (by kernel_rfl) (fun _ _ _ h => h) (yieldsIf_load_mid (by rfl) 40 _ rfl g5 0 (by go_simp) c5 _ (fun w h => (h.2.at 1 rfl).whole) Tryz.underlying40 rfl (iC infoRV HL5)) (mkG HO.own) ?_
  refine fApplyValuesLawA10_57 ?_
  refine wpAnyG_ready (rs := [1, 7]) (by kernel_rfl) (by simp) ?_
  refine AllReadyG.plain rfl rfl (fun K hK => ?_) (AllReadyG.plain rfl rfl (fun K hK => ?_) AllReadyG.nil)
  ·go_simp
   refine (rof21_any (exF [] _ _) x ec _ (HO.lt (fun _ h => by cases h)) (by have := HB.out.2.2; omega) (HX.out.mono HO.args)).mono ?_
   rintro e w6 ⟨gc, rfl, hy, hbq⟩
   replace HO := (HO.call hbq).read (MonoF.and HO.mono (ER.monoF (x := x) (c := gc))) (fun hr => ⟨hr, hy⟩)
   clear hy hbq
   refine hK.out _ _ (mkG HO.own) (fun _ => ?_)
   clear hK
   refine fApplyValuesLawA10_57 ?_
   refine wpAnyG_ready (rs := [3, 7]) (by kernel_rfl) (by simp) ?_
   refine AllReadyG.plain rfl rfl (fun K hK => ?_) (AllReadyG.plain rfl rfl (fun K hK => ?_) AllReadyG.nil)
   ·go_simp
    refine (rval_any rdo_said (exF [] _ _) x v gc c5 _ (HO.lt (fun _ h => by cases h)) HB.out.1.1 HB.out.1.2 HB.out.2.1 HB.out.2.2 HO.rd.2 HO.rd.1.1).mono ?_
    rintro e w7 hR
    obtain ⟨cs, n, rfl, hcl, hc1, hbq, hrv⟩ := RetN.form hR
    replace HO := (HO.call hbq).read (MonoF.and HO.mono (RVn.monoF (r := (avalue x v)) (cs := cs) (n := n))) (fun hr => ⟨hr, hrv⟩)
    have Hcl := Yq hcl; have Hc1 := Yq hc1; clear hR hrv hcl hc1 hbq
    refine hK.out _ _ (mkG HO.own) (fun _ => ?_)
    clear hK
    refine fApplyValuesLawA10_57 ?_
    refine wpAnyG_take (i := 4) (v := .tuple #[.agg cs.toArray, .int .i64 n]) rfl (by kernel_rfl) (fun _ _ _ h => h) (.inl ⟨by rfl, fun w hw => by go_simp⟩) (mkG HO.own) ?_
    refine fApplyValuesLawA10_57 ?_
    refine wpAnyG_take (i := 5) (v := .agg cs.toArray) rfl (by kernel_rfl) (fun _ _ _ h => h) (.inl ⟨by rfl, fun w hw => by go_simp⟩) (mkG HO.own) ?_
    refine fApplyValuesLawA10_57 ?_
    refine wpAnyG_take0 (i := 6) (v := .int .i64 n) rfl (by kernel_rfl) (fun _ _ _ h => h) (.inl ⟨by rfl, fun w hw => by go_simp⟩) (mkG HO.own) ?_
    refine fApplyValuesLawA10_57 ?_
    refine rdG (i := 7) (by kernel_rfl) rfl rfl (fun K hK => ?_)
    refine wp_alloc_ownF 40 rfl zV zeroRV HO ?_
    clear HO; intro w8 g10 HO _ _
    refine hK.out _ _ (mkG (HO.own.tl)) (fun _ => ?_)
    clear hK
    refine fApplyValuesLawA10_57 ?_
    refine rdG (i := 8) (by kernel_rfl) rfl rfl (fun K hK => ?_)
    refine wp_store_ownF 0 40 _ _ rfl g10 0 (.agg cs.toArray) cs (by go_simp) (by go_simp) rfl HO rfl (iC infoRV Hcl) (by rw [Hcl.out]; exact Nat.le_refl _) Hc1.out (patch_whole' _ _ (by rw [Hcl.out]; rfl)) ?_
    intro w9 HO9
    refine hK.out _ _ (InvG.past trivial (by kernel_rfl)) (fun _ => ?_)
    clear hK
    refine fApplyValuesLawA10_57 ?_
    refine wpAnyG_take0 (i := 9) (v := .int .i64 n) rfl (by kernel_rfl) (fun _ _ _ h => h) (.inl ⟨by rfl, fun w hw => by go_simp⟩) (InvG.past trivial (by kernel_rfl)) ?_
    refine fApplyValuesLawA10_57 ?_
    refine wpAnyG_done (by kernel_rfl) ?_ _
    have HCt := Yq (show DoCut [] w [(g6, c6), (g5, c5), (g3, vc), (g2, ec)] [] (fun h => VR h v c5 ∧ VR h (vOf (avalue x v)) c6) (avalue x v) (.pointer (some ⟨g10, 0, none⟩)) (.int .i64 n) w9 from ⟨g10, cs, n, rfl, rfl, HO9.read (MonoF.and (MonoF.and VR.monoF VR.monoF) RVn.monoF) (fun hr => ⟨hr.1.1, hr.2⟩), Hcl.out, Hc1.out⟩)
    clear HO9 HO
    go_wp2_with fail
    go_meet
    exact HCt.out
   ·refine wp_alloc_ownF 40 rfl zV zeroRV HO ?_
    clear HO; intro w8 g10 HO _ _
    refine hK.out _ _ (mkG (HO.own.tl)) (fun _ => ?_)
    clear hK
    refine fApplyValuesLawA10_57 ?_
    refine rdG (i := 3) (by kernel_rfl) rfl rfl (fun K hK => ?_)
    go_simp
    refine (rval_any rdo_said (exF [] _ _) x v gc c5 _ (HO.lt (fun _ h => by cases h)) HB.out.1.1 HB.out.1.2 HB.out.2.1 HB.out.2.2 HO.rd.2 HO.rd.1.1).mono ?_
    rintro e w7 hR
    obtain ⟨cs, n, rfl, hcl, hc1, hbq, hrv⟩ := RetN.form hR
    replace HO := (HO.call hbq).read (MonoF.and HO.mono (RVn.monoF (r := (avalue x v)) (cs := cs) (n := n))) (fun hr => ⟨hr, hrv⟩)
    have Hcl := Yq hcl; have Hc1 := Yq hc1; clear hR hrv hcl hc1 hbq
    refine hK.out _ _ (mkG (HO.own.tl)) (fun _ => ?_)
    clear hK
    refine fApplyValuesLawA10_57 ?_
    refine wpAnyG_take (i := 4) (v := .tuple #[.agg cs.toArray, .int .i64 n]) rfl (by kernel_rfl) (fun _ _ _ h => h) (.inl ⟨by rfl, fun w hw => by go_simp⟩) (mkG (HO.own.tl)) ?_
    refine fApplyValuesLawA10_57 ?_
    refine wpAnyG_take (i := 5) (v := .agg cs.toArray) rfl (by kernel_rfl) (fun _ _ _ h => h) (.inl ⟨by rfl, fun w hw => by go_simp⟩) (mkG (HO.own.tl)) ?_
    refine fApplyValuesLawA10_57 ?_
    refine wpAnyG_take0 (i := 6) (v := .int .i64 n) rfl (by kernel_rfl) (fun _ _ _ h => h) (.inl ⟨by rfl, fun w hw => by go_simp⟩) (mkG (HO.own.tl)) ?_
    refine fApplyValuesLawA10_57 ?_
    refine rdG (i := 8) (by kernel_rfl) rfl rfl (fun K hK => ?_)
    refine wp_store_ownF 0 40 _ _ rfl g10 0 (.agg cs.toArray) cs (by go_simp) (by go_simp) rfl HO rfl (iC infoRV Hcl) (by rw [Hcl.out]; exact Nat.le_refl _) Hc1.out (patch_whole' _ _ (by rw [Hcl.out]; rfl)) ?_
    intro w9 HO9
    refine hK.out _ _ (InvG.past trivial (by kernel_rfl)) (fun _ => ?_)
    clear hK
    refine fApplyValuesLawA10_57 ?_
    refine wpAnyG_take0 (i := 9) (v := .int .i64 n) rfl (by kernel_rfl) (fun _ _ _ h => h) (.inl ⟨by rfl, fun w hw => by go_simp⟩) (InvG.past trivial (by kernel_rfl)) ?_
    refine fApplyValuesLawA10_57 ?_
    refine wpAnyG_done (by kernel_rfl) ?_ _
    have HCt := Yq (show DoCut [] w [(g6, c6), (g5, c5), (g3, vc), (g2, ec)] [] (fun h => VR h v c5 ∧ VR h (vOf (avalue x v)) c6) (avalue x v) (.pointer (some ⟨g10, 0, none⟩)) (.int .i64 n) w9 from ⟨g10, cs, n, rfl, rfl, HO9.read (MonoF.and (MonoF.and VR.monoF VR.monoF) RVn.monoF) (fun hr => ⟨hr.1.1, hr.2⟩), Hcl.out, Hc1.out⟩)
    clear HO9 HO
    go_wp2_with fail
    go_meet
    exact HCt.out
  ·refine wp_alloc_ownF 40 rfl zV zeroRV HO ?_
   clear HO; intro w8 g10 HO _ _
   refine hK.out _ _ (mkG (HO.own.tl)) (fun _ => ?_)
   clear hK
   refine fApplyValuesLawA10_57 ?_
   refine rdG (i := 1) (by kernel_rfl) rfl rfl (fun K hK => ?_)
   go_simp
   refine (rof21_any (exF [] _ _) x ec _ (HO.lt (fun _ h => by cases h)) (by have := HB.out.2.2; omega) (HX.out.mono HO.args)).mono ?_
   rintro e w6 ⟨gc, rfl, hy, hbq⟩
   replace HO := (HO.call hbq).read (MonoF.and HO.mono (ER.monoF (x := x) (c := gc))) (fun hr => ⟨hr, hy⟩)
   clear hy hbq
   refine hK.out _ _ (mkG (HO.own.tl)) (fun _ => ?_)
   clear hK
   refine fApplyValuesLawA10_57 ?_
   refine rdG (i := 3) (by kernel_rfl) rfl rfl (fun K hK => ?_)
   go_simp
   refine (rval_any rdo_said (exF [] _ _) x v gc c5 _ (HO.lt (fun _ h => by cases h)) HB.out.1.1 HB.out.1.2 HB.out.2.1 HB.out.2.2 HO.rd.2 HO.rd.1.1).mono ?_
   rintro e w7 hR
   obtain ⟨cs, n, rfl, hcl, hc1, hbq, hrv⟩ := RetN.form hR
   replace HO := (HO.call hbq).read (MonoF.and HO.mono (RVn.monoF (r := (avalue x v)) (cs := cs) (n := n))) (fun hr => ⟨hr, hrv⟩)
   have Hcl := Yq hcl; have Hc1 := Yq hc1; clear hR hrv hcl hc1 hbq
   refine hK.out _ _ (mkG (HO.own.tl)) (fun _ => ?_)
   clear hK
   refine fApplyValuesLawA10_57 ?_
   refine wpAnyG_take (i := 4) (v := .tuple #[.agg cs.toArray, .int .i64 n]) rfl (by kernel_rfl) (fun _ _ _ h => h) (.inl ⟨by rfl, fun w hw => by go_simp⟩) (mkG (HO.own.tl)) ?_
   refine fApplyValuesLawA10_57 ?_
   refine wpAnyG_take (i := 5) (v := .agg cs.toArray) rfl (by kernel_rfl) (fun _ _ _ h => h) (.inl ⟨by rfl, fun w hw => by go_simp⟩) (mkG (HO.own.tl)) ?_
   refine fApplyValuesLawA10_57 ?_
   refine wpAnyG_take0 (i := 6) (v := .int .i64 n) rfl (by kernel_rfl) (fun _ _ _ h => h) (.inl ⟨by rfl, fun w hw => by go_simp⟩) (mkG (HO.own.tl)) ?_
   refine fApplyValuesLawA10_57 ?_
   refine rdG (i := 8) (by kernel_rfl) rfl rfl (fun K hK => ?_)
   refine wp_store_ownF 0 40 _ _ rfl g10 0 (.agg cs.toArray) cs (by go_simp) (by go_simp) rfl HO rfl (iC infoRV Hcl) (by rw [Hcl.out]; exact Nat.le_refl _) Hc1.out (patch_whole' _ _ (by rw [Hcl.out]; rfl)) ?_
   intro w9 HO9
   refine hK.out _ _ (InvG.past trivial (by kernel_rfl)) (fun _ => ?_)
   clear hK
   refine fApplyValuesLawA10_57 ?_
   refine wpAnyG_take0 (i := 9) (v := .int .i64 n) rfl (by kernel_rfl) (fun _ _ _ h => h) (.inl ⟨by rfl, fun w hw => by go_simp⟩) (InvG.past trivial (by kernel_rfl)) ?_
   refine fApplyValuesLawA10_57 ?_
   refine wpAnyG_done (by kernel_rfl) ?_ _
   have HCt := Yq (show DoCut [] w [(g6, c6), (g5, c5), (g3, vc), (g2, ec)] [] (fun h => VR h v c5 ∧ VR h (vOf (avalue x v)) c6) (avalue x v) (.pointer (some ⟨g10, 0, none⟩)) (.int .i64 n) w9 from ⟨g10, cs, n, rfl, rfl, HO9.read (MonoF.and (MonoF.and VR.monoF VR.monoF) RVn.monoF) (fun hr => ⟨hr.1.1, hr.2⟩), Hcl.out, Hc1.out⟩)
   clear HO9 HO
   go_wp2_with fail
   go_meet
   exact HCt.out
 case rest =>
  obtain ⟨g8, c8, n, rfl, rfl, HOc, hcl, hc1⟩ := hcut
  clear HO hcl hc1
  obtain ⟨h8, hn⟩ := (HOc.rd.2).form2
  have HL8 := Yq h8.len
  have HO9 := Yq (HOc.read (MonoF.and (MonoF.and VR.monoF VR.monoF) (VR.monoF (x := vOf (avalue x v)) (c := c8))) (fun hr => ⟨hr.1, hr.2.form2.1⟩))
  clear HOc h8
  subst hn
  have HO := HO9.out
  clear HO9
  have HNm := Yq (fun (wx : World) (hb : Below w.heap.size w wx) => num_of A wx (HNE.out wx hb) (avalue x v) HBd.out)
  have HFt := Yq (fun (G : List (Option Nat)) (wx : World) (hG : ∀ k, some k ∈ G → k < wx.heap.size) (hb : Below w.heap.size w wx) (hle : FLe (fragE w []) (fragE wx G)) => fits_any (erN A) G x v ec vc wx hG HB.out.1.1 HB.out.2.2 (HER.out wx hb) (HX.out.mono hle) (HV.out.mono hle))
  rw [HFz.out] at HFt
  clear HFz HBd HNE HER HAl HG1 HG2
  generalize nOf (avalue x v) = nr at *
  generalize vOf (avalue x v) = vr at *
  generalize eOf (erN A) (avalue x v) = ev at *
  go_wp2_with fail
  go_simp
  replace HO : OwnF [] w [(g8, c8), (g6, c6), (g5, c5), (g3, vc), (g2, ec)] [] (fun h => (VR h v c5 ∧ VR h vr c6) ∧ VR h vr c8) wc.drew := HO.drew
  refine wp_region_G 22 (fun _ => True) (fun w' => Own w [(g8, c8), (g6, c6), (g5, c5), (g3, vc), (g2, ec)] w') (by kernel_rfl) trivial HO.own (fun _ => ?_)
  refine wpAnyG_take (i := 0) (v := ev) rfl (by kernel_rfl) (fun _ _ _ h => h) (.inl ⟨by rfl, fun w hw => by go_simp⟩) (mkG HO.own) ?_
  refine fApplyValuesLawA25_57 ?_
  refine wpAnyG_take (i := 2) (v := .int .i64 nr) rfl (by kernel_rfl) (fun _ _ _ h => h) (.inl ⟨by rfl, fun w hw => by go_simp⟩) (mkG HO.own) ?_
  refine fApplyValuesLawA25_57 ?_
  refine rdG (i := 1) (by kernel_rfl) rfl rfl (fun K hK => ?_)
  go_simp
  refine (HNm.out _ HO.below).mono ?_
  rintro e w12 ⟨rfl, hbq⟩
  replace HO := HO.call hbq
  clear hbq
  refine hK.out _ _ (mkG HO.own) (fun _ => ?_)
  clear hK
  refine fApplyValuesLawA25_57 ?_
  refine wpAnyG_take (i := 3) (v := .bool true) rfl (by kernel_rfl) (fun _ _ _ h => h) (.inl ⟨by rfl, fun w hw => by go_simp⟩) (mkG HO.own) ?_
  refine fApplyValuesLawA25_57 ?_
  refine wpAnyG_take (i := 4) (v := .bool true) rfl (by kernel_rfl) (fun _ _ _ h => h) (.inl ⟨by rfl, fun w hw => by go_simp⟩) (mkG HO.own) ?_
  refine fApplyValuesLawA25_57 ?_
  refine wpAnyG_take (i := 5) (v := .agg c6.toArray) rfl (by kernel_rfl) (fun _ _ _ h => h) (yieldsIf_load_mid (by rfl) 27 _ rfl g6 0 (by go_simp) c6 _ (fun w h => (h.2.at 1 rfl).whole) Tryz.underlying27 rfl (iC infoV HL6)) (mkG HO.own) ?_
  refine fApplyValuesLawA25_57 ?_
  refine wpAnyG_take (i := 7) (v := .agg c8.toArray) rfl (by kernel_rfl) (fun _ _ _ h => h) (yieldsIf_load_mid (by rfl) 40 _ rfl g8 0 (by go_simp) c8 _ (fun w h => (h.2.at 0 rfl).whole) Tryz.underlying40 rfl (iC infoRV HL8)) (mkG HO.own) ?_
  refine fApplyValuesLawA25_57 ?_
  refine wpAnyG_ready (rs := [6]) (by kernel_rfl) (by simp) ?_
  refine AllReadyG.cons rfl (fun K hK => ?_) AllReadyG.nil
  rw [if_pos (by rfl)]
  go_simp
  refine (rof_any (exF [] [(g8, c8), (g6, c6), (g5, c5), (g3, vc), (g2, ec)] []) vr c6 _ (HO.lt (fun _ h => by cases h)) HVx.out HO.rd.1.2).mono ?_
  rintro e w13 ⟨c9, rfl, hy, hbq⟩
  replace HO : OwnF [] w [(g8, c8), (g6, c6), (g5, c5), (g3, vc), (g2, ec)] [] (fun h => ((VR h v c5 ∧ VR h vr c6) ∧ VR h vr c8) ∧ VR h vr c9) w13 := (HO.call hbq).read (MonoF.and (MonoF.and (MonoF.and VR.monoF VR.monoF) VR.monoF) VR.monoF) (fun hr => ⟨hr, hy⟩)
  clear hy hbq
  refine hK.out _ _ (mkG HO.own) (fun _ => ?_)
  clear hK
  refine fApplyValuesLawA25_57 ?_
  refine wpAnyG_ready (rs := [8]) (by kernel_rfl) (by simp) ?_
  refine AllReadyG.cons rfl (fun K hK => ?_) AllReadyG.nil
  rw [if_pos (by rfl)]
  go_simp
  refine (rsame_any vr vr c9 c8 _ (HO.rd.2.mono (fragE_le _ _)) (HO.rd.1.2.mono (fragE_le _ _))).mono ?_
  rintro e w14 ⟨rfl, hbq⟩
  replace HO := HO.call hbq
  clear hbq
  have hcr : decide (cmp vr vr = 0) = true := decide_eq_true (Val.cmp_refl vr)
  rw [hcr]
  clear hcr
  refine hK.out _ _ (mkG HO.own) (fun _ => ?_)
  clear hK
  refine fApplyValuesLawA25_57 ?_
  refine wpAnyG_take (i := 9) (v := .bool true) rfl (by kernel_rfl) (fun _ _ _ h => h) (.inl ⟨by rfl, fun w hw => by go_simp⟩) (mkG HO.own) ?_
  refine fApplyValuesLawA25_57 ?_
  refine wpAnyG_take (i := 10) (v := .bool true) rfl (by kernel_rfl) (fun _ _ _ h => h) (.inl ⟨by rfl, fun w hw => by go_simp⟩) (mkG HO.own) ?_
  refine fApplyValuesLawA25_57 ?_
  refine wpAnyG_take (i := 11) (v := .agg ec.toArray) rfl (by kernel_rfl) (fun _ _ _ h => h) (yieldsIf_load_mid (by rfl) 32 _ rfl g2 0 (by go_simp) ec _ (fun w h => (h.2.at 4 rfl).whole) Tryz.underlying32 rfl (iC infoE HLe)) (mkG HO.own) ?_
  refine fApplyValuesLawA25_57 ?_
  refine wpAnyG_take (i := 12) (v := .agg vc.toArray) rfl (by kernel_rfl) (fun _ _ _ h => h) (yieldsIf_load_mid (by rfl) 27 _ rfl g3 0 (by go_simp) vc _ (fun w h => (h.2.at 3 rfl).whole) Tryz.underlying27 rfl (iC infoV HLv)) (mkG HO.own) ?_
  refine fApplyValuesLawA25_57 ?_
  refine wpAnyG_take (i := 14) (v := .int .i64 nr) rfl (by kernel_rfl) (fun _ _ _ h => h) (.inl ⟨by rfl, fun w hw => by go_simp⟩) (mkG HO.own) ?_
  refine fApplyValuesLawA25_57 ?_
  refine wpAnyG_take (i := 15) (v := .bool (nr == 0)) rfl (by kernel_rfl) (fun _ _ _ h => h) (.inl ⟨by rfl, fun w hw => by go_simp⟩) (mkG HO.own) ?_
  refine fApplyValuesLawA25_57 ?_
  refine wpAnyG_ready (rs := [13]) (by kernel_rfl) (by simp) ?_
  refine AllReadyG.cons rfl (fun K hK => ?_) AllReadyG.nil
  rw [if_pos (by rfl)]
  go_simp
  refine (HFt.out (exF [] [(g8, c8), (g6, c6), (g5, c5), (g3, vc), (g2, ec)] []) _ (HO.lt (fun _ h => by cases h)) HO.below HO.args).mono ?_
  rintro e w12 ⟨rfl, hbq⟩
  replace HO := HO.call hbq
  clear hbq
  refine hK.out _ _ (mkG HO.own) (fun _ => ?_)
  clear hK
  refine fApplyValuesLawA25_57 ?_
  refine wpAnyG_take (i := 16) (v := .bool true) rfl (by kernel_rfl) (fun _ _ _ h => h) (.inl ⟨by rfl, fun w hw => by go_simp⟩) (mkG HO.own) ?_
  refine fApplyValuesLawA25_57 ?_
  refine wpAnyG_take (i := 17) (v := .bool true) rfl (by kernel_rfl) (fun _ _ _ h => h) (.inl ⟨by rfl, fun w hw => by go_simp⟩) (mkG HO.own) ?_
  refine fApplyValuesLawA25_57 ?_
  refine wpAnyG_take (i := 18) (v := .bool true) rfl (by kernel_rfl) (fun _ _ _ h => h) (.inl ⟨by rfl, fun w hw => by go_simp⟩) (mkG HO.own) ?_
  refine fApplyValuesLawA25_57 ?_
  refine wpAnyG_take (i := 19) (v := .agg vc.toArray) rfl (by kernel_rfl) (fun _ _ _ h => h) (yieldsIf_load_mid (by rfl) 27 _ rfl g3 0 (by go_simp) vc _ (fun w h => (h.2.at 3 rfl).whole) Tryz.underlying27 rfl (iC infoV HLv)) (mkG HO.own) ?_
  refine fApplyValuesLawA25_57 ?_
  refine wpAnyG_take (i := 21) (v := .agg c5.toArray) rfl (by kernel_rfl) (fun _ _ _ h => h) (yieldsIf_load_mid (by rfl) 40 _ rfl g5 0 (by go_simp) c5 _ (fun w h => (h.2.at 2 rfl).whole) Tryz.underlying40 rfl (iC infoRV HL5)) (mkG HO.own) ?_
  refine fApplyValuesLawA25_57 ?_
  refine wpAnyG_ready (rs := [20]) (by kernel_rfl) (by simp) ?_
  refine AllReadyG.cons rfl (fun K hK => ?_) AllReadyG.nil
  rw [if_pos (by rfl)]
  go_simp
  refine (rof_any (exF [] [(g8, c8), (g6, c6), (g5, c5), (g3, vc), (g2, ec)] []) v vc _ (HO.lt (fun _ h => by cases h)) (by have := HB.out.2.2; omega) (HV.out.mono HO.args)).mono ?_
  rintro e w15 ⟨c10, rfl, hy, hbq⟩
  replace HO : OwnF [] w [(g8, c8), (g6, c6), (g5, c5), (g3, vc), (g2, ec)] [] (fun h => (((VR h v c5 ∧ VR h vr c6) ∧ VR h vr c8) ∧ VR h vr c9) ∧ VR h v c10) w15 := (HO.call hbq).read (MonoF.and (MonoF.and (MonoF.and (MonoF.and VR.monoF VR.monoF) VR.monoF) VR.monoF) VR.monoF) (fun hr => ⟨hr, hy⟩)
  clear hy hbq
  refine hK.out _ _ (mkG HO.own) (fun _ => ?_)
  clear hK
  refine fApplyValuesLawA25_57 ?_
  refine wpAnyG_ready (rs := [22]) (by kernel_rfl) (by simp) ?_
  refine AllReadyG.cons rfl (fun K hK => ?_) AllReadyG.nil
  rw [if_pos (by rfl)]
  go_simp
  refine (rsame_any v v c10 c5 _ (HO.rd.2.mono (fragE_le _ _)) (HO.rd.1.1.1.1.mono (fragE_le _ _))).mono ?_
  rintro e w16 ⟨rfl, hbq⟩
  replace HO := HO.call hbq
  clear hbq
  have hcr : decide (cmp v v = 0) = true := decide_eq_true (Val.cmp_refl v)
  rw [hcr]
  clear hcr
  refine hK.out _ _ (mkG HO.own) (fun _ => ?_)
  clear hK
  refine fApplyValuesLawA25_57 ?_
  refine wpAnyG_take0 (i := 23) (v := .bool true) rfl (by kernel_rfl) (fun _ _ _ h => h) (.inl ⟨by rfl, fun w hw => by go_simp⟩) (mkG HO.own) ?_
  refine fApplyValuesLawA25_57 ?_
  refine wpAnyG_take0 (i := 24) (v := .bool true) rfl (by kernel_rfl) (fun _ _ _ h => h) (.inl ⟨by rfl, fun w hw => by go_simp⟩) (mkG HO.own) ?_
  refine fApplyValuesLawA25_57 ?_
  refine wpAnyG_done (by kernel_rfl) ?_ _
  have Hb := Yq HO.below
  clear HO
  go_wp2_with fail
  go_ret
  exact ⟨rfl, Hb.out⟩
section
variable {H : Type} {enc : TypeId × Value → H} {base : Nat} {spare : Nat → Bool} {held : Bool}
theorem applyValues_walk {r : Reach} {b0 b1 : Nat} {v0 v1 : Value} {d0 d1 : DataW H} {p0 p1 : List MemPlace} (W : World) (hL : ∃ A, NE A W)
  (o0 : Value.okWide Tryz.prog W r b0 32 v0) (h0 : DataW.Trod enc Tryz.prog W base spare held 32 v0 d0 p0)
  (o1 : Value.okWide Tryz.prog W r b1 27 v1) (h1 : DataW.Trod enc Tryz.prog W base spare held 27 v1 d1 p1) :
  Calls Tryz.prog 3 #[v0, v1] W fun e w' => e = .returned (.bool true) ∧ Below W.heap.size W w' := by
 obtain ⟨A, he⟩ := hL
 obtain ⟨x, xc, rfl, hx⟩ := open_E o0 h0
 obtain ⟨a, ac, rfl, ha⟩ := open_V o1 h1
 exact applyValues_at A W he x a xc ac hx ha
end
end Go.Proofs.YtebekgdjknenlaaGreatDoor
