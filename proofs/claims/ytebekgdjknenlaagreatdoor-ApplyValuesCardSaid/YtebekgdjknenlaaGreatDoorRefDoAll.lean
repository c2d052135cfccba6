/- redlineref23.do, walked: Row, and all; Value. -/
import Derived.Test.YtebekgdjknenlaaGreatDoorRefRow
import Derived.Test.YtebekgdjknenlaaGreatDoorRefDo2
import Derived.Test.YtebekgdjknenlaaGreatDoorRefDo4
set_option maxRecDepth 100000
set_option maxHeartbeats 8000000
set_option linter.unusedVariables false
set_option linter.unusedSimpArgs false
namespace Go.Proofs.YtebekgdjknenlaaGreatDoor
open Go.RowKit
open Val (V E right cmp eright ado adoF adoS adoK Res avalue esm esmF esmS esmK vmx esz eszF eszS eszK efields esteps ekeys get find withV putV mkM mkP mkL partB setRest headKind KI KP KeysOf allF allS allK)
theorem rdo_3 (F : List (Option Nat)) (o nw : V) (fs : List (Int × E)) (r : Bool) (ro rn : ByteArray) (s : List (Int × Int × V × E)) (ks : List (V × E)) (v : V) (ec0 vc : List Value) (w : World) (hF : ∀ k, some k ∈ F → k < w.heap.size) (he : ER (fragE w F) (.mk 3 o nw fs r ro rn s ks) ec0) (hv : VR (fragE w F) v vc) (R : Res V)
  (hC : ∀ (G : List (Option Nat)) (sv : Value) (se : List (List Value)) (wx : World), (∀ k, some k ∈ G → k < wx.heap.size) → FlatC 30 (fragE wx G) sv se → ESs (fragE wx G) s se → VR (fragE wx G) v vc → Calls Tryz.prog 48 #[sv, .agg vc.toArray] wx (RetN G wx R)) :
  Calls Tryz.prog 22 #[.agg ec0.toArray, .agg vc.toArray] w (RetN F w R) := by
 have Hv := Yq hv; have HLv := Yq hv.len
 rw [ER] at he
 obtain ⟨oc, nc, fv, sv, kv, fe, se, ke, hxc, hsz2, ⟨h3, h4⟩, ⟨h5, h6, h7⟩, h8, h9, h10⟩ := he
 obtain ⟨a1, c1, e1, b1, b2, b3⟩ := h5.len
 obtain ⟨a2, c2, e2, d1, d2, d3⟩ := h6.len
 obtain ⟨a3, c3, e3, p1, p2, p3⟩ := h7.len
 subst e1 e2 e3
 have HX2 : Hid (FlatC 30 (fragE w F) (.slice a2 se.length c2) se ∧ ESs (fragE w F) s se) := ⟨h6, h9⟩
 have HC := Yq (fun (w2 : World) (g : Nat) (hB : Blk w2 g ec0) => EdAt.of h3.len h4.len (hxc ▸ hB))
 have HFw := Yq hF; have HCr := Yq hC
 clear hxc hsz2 h3 h4 h5 h6 h7 h8 h9 h10 b1 b2 b3 d1 d2 d3 p1 p2 p3 hF hv hC
 go_enter Tryz.func22, Tryz.ntmps22
 have HO := Own.nil w
 go_upto_region 2 with (first
  | ((with_reducible refine atOp (.box 52 _) ?_); refine wpList_box_own rfl 52 _ rfl ec0 rfl HO ?_; clear HO; intro w1 g1 HO)
  | ((with_reducible refine atOp (.box 40 _) ?_); refine wpList_box_own rfl 40 _ rfl vc rfl HO ?_; clear HO; intro w1 gx HO)
  | (refine wpList_build0 rfl 40 rfl _ rp_build ?_; refine wpList_alloc_own rfl 40 rfl zV zeroRV HO ?_; clear HO; intro w3 g6 HO)
  | ((with_reducible refine atOp (.alloc 40) ?_); refine wpList_alloc_own rfl 40 rfl zV zeroRV HO ?_; clear HO; intro w2 g4 HO)
  | ((with_reducible refine atOp (.store 40 _ _) ?_); refine wpList_store_own 0 rfl 40 _ _ rfl _ 0 (cP 0 (.slice none 0 0)) rfl rfl HO rfl infoRV (Nat.le_refl _) (one_cP rfl) rfl ?_; clear HO; intro w4 HO)
  | fail)
 have HOF := OwnF.start HO F [] (fun r hr => by cases hr)
 clear HO
 have HO := HOF
 clear HOF
 have k0 := (HC.out _ _ (HO.at 3 rfl)).c0
 have q19 := (HC.out _ _ (HO.at 3 rfl)).c19
 have hvv := (HO.at 2 rfl).whole
 have HW := Yq (HCr.out (exF F _ _) _ se _ (HO.lt HFw.out) (HX2.out.1.mono HO.args) (HX2.out.2.mono HO.args) (Hv.out.mono HO.args))
 go_wp2_with (first
  | ((with_reducible refine atOp (.load 40 _) ?_); refine wpList_load_seg rfl 40 _ rfl _ _ rfl _ _ hvv Tryz.underlying40 rfl (iC infoRV HLv) ?_)
  | (go_at_call 48; (with_reducible refine HW.out.mono ?_); rintro e w6 hR; obtain ⟨cs, n, rfl, hcl, hc1, hbq, hrv⟩ := RetN.form hR; have HOq := (HO.call hbq).read (RVn.monoF (r := R) (cs := cs) (n := n)) (fun _ => hrv); clear HO; have HO := HOq; have Hcl := Yq hcl; have Hc1 := Yq hc1; clear HOq hR hcl hc1 hbq hrv hvv k0 q19)
  | ((with_reducible refine atOp (.store 40 _ _) ?_); refine wpList_store_ownF 1 rfl 40 _ _ rfl _ 0 (cs) rfl rfl HO rfl (iC infoRV Hcl) (by rw [Hcl.out]; decide) Hc1.out (patch_whole' _ _ (by rw [Hcl.out]; rfl)) ?_; clear HO; intro w7 HO)
  | fail)
 refine bodyPost_ret (v := .tuple #[.agg cs.toArray, .int .i64 n]) ?_ rfl (RetN.of HO.below HO.done)
 exact results2_blk rfl _ _ g4 cs _ rfl rfl (HO.at 1 rfl) _ Tryz.underlying40 rfl (iC infoRV Hcl)
theorem eright_lists {k : Int} {o n : V} {f : List (Int × E)} {r : Bool} {ro rn : ByteArray} {s : List (Int × Int × V × E)} {ks : List (V × E)} (h : eright (.mk k o n f r ro rn s ks) = true) : (k = 2 → efields 0 f = true) ∧ (k = 4 → ekeys none ks = true) := by
 rw [eright, Bool.and_eq_true] at h
 have h := h.2
 constructor
 ·rintro rfl
  rw [if_neg (by decide), if_neg (by decide), if_pos rfl] at h
  simp only [Bool.and_eq_true] at h; exact h.1
 ·rintro rfl
  rw [if_neg (by decide), if_neg (by decide), if_neg (by decide), if_neg (by decide), if_pos rfl] at h
  simp only [Bool.and_eq_true] at h; exact h.2
theorem rdo_all : ∀ N, RDoAt N
 | 0 => fun F e v ec vc w hF hs => absurd hs (by omega)
 | N + 1 => fun F x v xc vc w hF hs hr hv hm hb hx hvv => by
  have ih := rdo_all N
  have hsF : ∀ s ∈ x.fields, SizeOf.sizeOf s.2 < N := fun s h => by have := Val.esize_field (x := x) (m := s.1) (e := s.2) h; omega
  have hsS : ∀ s ∈ x.steps, SizeOf.sizeOf s.2.2.2 < N := fun s h => by have := Val.esize_step (x := x) (k := s.1) (c := s.2.1) (v := s.2.2.1) (e := s.2.2.2) h; omega
  have hsK : ∀ s ∈ x.keys, SizeOf.sizeOf s.2 < N := fun s h => by have := Val.esize_key (x := x) (k := s.1) (e := s.2) h; omega
  obtain ⟨k, o, n, f, r, ro, rn, s, ks⟩ := x
  rw [esz] at hb
  rw [esm] at hm
  obtain ⟨_, hp⟩ := Val.eright_parts hr
  have hl := eright_lists hr
  rcases hp with rfl | ⟨rfl, h1, h2, h3⟩ | ⟨rfl, h1⟩ | ⟨rfl, h1⟩ | ⟨rfl, h1⟩
  ·have e : ado (.mk 0 o n f r ro rn s ks) v = .ok v := by rw [ado]; simp
   rw [e]
   exact rdo_0 F _ v xc vc w rfl hx hvv
  ·exact rdo_1 F o n f r ro rn s ks v xc vc w h1 hv hx hvv
  ·have e : ado (.mk 2 o n f r ro rn s ks) v = if v.kind = 3 then Val.intoT f r ro rn v else .bad 13 := by rw [ado]; rfl
   rw [e]
   by_cases hk : v.kind = 3
   ·rw [if_pos hk]
    exact rdo_2g N ih F o n f r ro rn s ks v xc vc w hF hsF h1 (hl.1 rfl) hm.2.1 hv (by omega) hx hvv hk
   ·rw [if_neg hk]
    exact rdo_2x F _ v xc vc w rfl hk hx hvv
  ·have e : ado (.mk 3 o n f r ro rn s ks) v = if v.kind = 4 ∨ v.kind = 0 then Val.rowT s v.list else .bad 13 := by
    rw [ado]
    simp only [show ¬ ((3 : Int) = 1) by decide, show ¬ ((3 : Int) = 2) by decide, if_true, if_false]
    by_cases hk : v.kind = 4 ∨ v.kind = 0
    ·rw [if_pos hk, if_pos hk]; unfold Val.rowT; cases adoS s v.list [] <;> rfl
    ·rw [if_neg hk, if_neg hk]
   rw [e]
   refine rdo_3 F o n f r ro rn s ks v xc vc w hF hx hvv _ (fun G sv se wx hG hfl hse hvx => ?_)
   by_cases hk : v.kind = 4 ∨ v.kind = 0
   ·rw [if_pos hk]
    exact rrow_good N ih G s v sv se vc wx hG hsS h1 hm.2.2.1 (Val.rightL_mem.1 (Val.right_list hv hk).2) hk (by omega) hfl hse hvx
   ·rw [if_neg hk]
    exact rrow_bad G sv v vc wx hk hvx
  ·have e : ado (.mk 4 o n f r ro rn s ks) v = if v.kind = 5 ∨ v.kind = 0 then adoK ks v else .bad 13 := by rw [ado]; rfl
   rw [e]
   by_cases hk : v.kind = 5 ∨ v.kind = 0
   ·rw [if_pos hk]
    exact rdo_4g N ih F o n f r ro rn s ks v xc vc w hF hsK h1 (hl.2 rfl) hm.2.2.2 hv (by omega) hx hvv hk
   ·rw [if_neg hk]
    exact rdo_4x F _ v xc vc w rfl hk hx hvv
theorem rdo_said : RDoSaid := fun F e v ec vc w hF hr hv hm hb he hvx => rdo_all _ F e v ec vc w hF (Nat.lt_succ_self _) hr hv hm hb he hvx
end Go.Proofs.YtebekgdjknenlaaGreatDoor
