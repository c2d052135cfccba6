/- redlinelaw21.Of and steps, walked: an edit as of the document is the same tree. -/
import Derived.Test.YtebekgdjknenlaaGreatDoorGpBA
set_option maxRecDepth 100000
set_option maxHeartbeats 8000000
set_option linter.unusedVariables false
set_option linter.unusedSimpArgs false
namespace Go.Proofs.YtebekgdjknenlaaGreatDoor
open Go.RowKit
open Val (V E esz eszF eszS eszK vmx)
theorem fOf21A12_66 {P : Program} {M : Region.Mode} {O : Array Oper} {Q : Exit → Act → World → Prop} {Y Z : World → Prop} {f F : Nat} {a b c e g i j k l m n o : Bool} {p q r s t u v x y z a0 a1 a2 a3 a4 a5 a6 a7 a8 a9 aA aB aC aD aE aF aG aH aI aJ aK aL aM aN aO aP aQ aR aS aT aU aV aW aX aY aZ b0 b1 b2 b3 b4 b5 b6 b7 b8 b9 bA bB bC bD bE bF bG bH bI bJ : Value} {d} {w : World} (h : wpAnyG P M O Q Y Z f F #[a,b,c,e,g,i,j,k,l,m,n,o] ⟨#[p,q,r,s,t,u,v,x,y,z,a0,a1,a2,a3,a4,a5,a6,a7,a8,a9,aA,aB,aC,aD,aE,aF,aG,aH,aI,aJ,aK,aL,aM,aN,aO,aP,aQ,aR,aS,aT,aU,aV,aW,aX,aY,aZ,b0,b1,b2,b3,b4,b5,b6,b7,b8,b9,bA,bB,bC,bD,bE,bF,bG,bH,bI,bJ],d⟩ w) : wpAnyG P M O Q Y Z f F #[a,b,c,e,g,i,j,k,l,m,n,o] ⟨#[p,q,r,s,t,u,v,x,y,z,a0,a1,a2,a3,a4,a5,a6,a7,a8,a9,aA,aB,aC,aD,aE,aF,aG,aH,aI,aJ,aK,aL,aM,aN,aO,aP,aQ,aR,aS,aT,aU,aV,aW,aX,aY,aZ,b0,b1,b2,b3,b4,b5,b6,b7,b8,b9,bA,bB,bC,bD,bE,bF,bG,bH,bI,bJ],d⟩ w := h
theorem fOf21A13_66 {P : Program} {M : Region.Mode} {O : Array Oper} {Q : Exit → Act → World → Prop} {Y Z : World → Prop} {f F : Nat} {a b c e g i j k l m n o p : Bool} {q r s t u v x y z a0 a1 a2 a3 a4 a5 a6 a7 a8 a9 aA aB aC aD aE aF aG aH aI aJ aK aL aM aN aO aP aQ aR aS aT aU aV aW aX aY aZ b0 b1 b2 b3 b4 b5 b6 b7 b8 b9 bA bB bC bD bE bF bG bH bI bJ bK : Value} {d} {w : World} (h : wpAnyG P M O Q Y Z f F #[a,b,c,e,g,i,j,k,l,m,n,o,p] ⟨#[q,r,s,t,u,v,x,y,z,a0,a1,a2,a3,a4,a5,a6,a7,a8,a9,aA,aB,aC,aD,aE,aF,aG,aH,aI,aJ,aK,aL,aM,aN,aO,aP,aQ,aR,aS,aT,aU,aV,aW,aX,aY,aZ,b0,b1,b2,b3,b4,b5,b6,b7,b8,b9,bA,bB,bC,bD,bE,bF,bG,bH,bI,bJ,bK],d⟩ w) : wpAnyG P M O Q Y Z f F #[a,b,c,e,g,i,j,k,l,m,n,o,p] ⟨#[q,r,s,t,u,v,x,y,z,a0,a1,a2,a3,a4,a5,a6,a7,a8,a9,aA,aB,aC,aD,aE,aF,aG,aH,aI,aJ,aK,aL,aM,aN,aO,aP,aQ,aR,aS,aT,aU,aV,aW,aX,aY,aZ,b0,b1,b2,b3,b4,b5,b6,b7,b8,b9,bA,bB,bC,bD,bE,bF,bG,bH,bI,bJ,bK],d⟩ w := h
theorem fOf21A15_29 {P : Program} {M : Region.Mode} {O : Array Oper} {Q : Exit → Act → World → Prop} {Y Z : World → Prop} {f F : Nat} {a b c e g i j k l m n o p q r : Bool} {s t u v x y z a0 a1 a2 a3 a4 a5 a6 a7 a8 a9 aA aB aC aD aE aF aG aH aI aJ aK aL : Value} {d} {w : World} (h : wpAnyG P M O Q Y Z f F #[a,b,c,e,g,i,j,k,l,m,n,o,p,q,r] ⟨#[s,t,u,v,x,y,z,a0,a1,a2,a3,a4,a5,a6,a7,a8,a9,aA,aB,aC,aD,aE,aF,aG,aH,aI,aJ,aK,aL],d⟩ w) : wpAnyG P M O Q Y Z f F #[a,b,c,e,g,i,j,k,l,m,n,o,p,q,r] ⟨#[s,t,u,v,x,y,z,a0,a1,a2,a3,a4,a5,a6,a7,a8,a9,aA,aB,aC,aD,aE,aF,aG,aH,aI,aJ,aK,aL],d⟩ w := h
theorem fOf21A20_66 {P : Program} {M : Region.Mode} {O : Array Oper} {Q : Exit → Act → World → Prop} {Y Z : World → Prop} {f F : Nat} {a b c e g i j k l m n o p q r s t u v x : Bool} {y z a0 a1 a2 a3 a4 a5 a6 a7 a8 a9 aA aB aC aD aE aF aG aH aI aJ aK aL aM aN aO aP aQ aR aS aT aU aV aW aX aY aZ b0 b1 b2 b3 b4 b5 b6 b7 b8 b9 bA bB bC bD bE bF bG bH bI bJ bK bL bM bN bO bP bQ bR : Value} {d} {w : World} (h : wpAnyG P M O Q Y Z f F #[a,b,c,e,g,i,j,k,l,m,n,o,p,q,r,s,t,u,v,x] ⟨#[y,z,a0,a1,a2,a3,a4,a5,a6,a7,a8,a9,aA,aB,aC,aD,aE,aF,aG,aH,aI,aJ,aK,aL,aM,aN,aO,aP,aQ,aR,aS,aT,aU,aV,aW,aX,aY,aZ,b0,b1,b2,b3,b4,b5,b6,b7,b8,b9,bA,bB,bC,bD,bE,bF,bG,bH,bI,bJ,bK,bL,bM,bN,bO,bP,bQ,bR],d⟩ w) : wpAnyG P M O Q Y Z f F #[a,b,c,e,g,i,j,k,l,m,n,o,p,q,r,s,t,u,v,x] ⟨#[y,z,a0,a1,a2,a3,a4,a5,a6,a7,a8,a9,aA,aB,aC,aD,aE,aF,aG,aH,aI,aJ,aK,aL,aM,aN,aO,aP,aQ,aR,aS,aT,aU,aV,aW,aX,aY,aZ,b0,b1,b2,b3,b4,b5,b6,b7,b8,b9,bA,bB,bC,bD,bE,bF,bG,bH,bI,bJ,bK,bL,bM,bN,bO,bP,bQ,bR],d⟩ w := h
def RetRE (F : List (Option Nat)) (w : World) (x : E) (e : Ending) (w' : World) : Prop := ∃ yc, e = .returned (.agg yc.toArray) ∧ ER (fragE w' F) x yc ∧ Below w.heap.size w w'
def RetSs (F : List (Option Nat)) (w : World) (s : List (Int × Int × V × E)) (e : Ending) (w' : World) : Prop := ∃ u es, e = .returned u ∧ FlatC 30 (fragE w' F) u es ∧ ESs (fragE w' F) s es ∧ u.oneCell' = true ∧ Below w.heap.size w w'
def ROf21At (N : Nat) : Prop := ∀ (F : List (Option Nat)) (x : E) (xc : List Value) (w : World), (∀ k, some k ∈ F → k < w.heap.size) → SizeOf.sizeOf x < N → esz x ≤ 90000 → ER (fragE w F) x xc →
 Calls Tryz.prog 10 #[.agg xc.toArray] w (RetRE F w x)
def RStAt (N : Nat) : Prop := ∀ (F : List (Option Nat)) (s : List (Int × Int × V × E)) (v : Value) (es : List (List Value)) (w : World), (∀ k, some k ∈ F → k < w.heap.size) → (∀ e ∈ s, SizeOf.sizeOf e.2.2.2 < N) → eszS s ≤ 90000 → FlatC 30 (fragE w F) v es → ESs (fragE w F) s es →
 Calls Tryz.prog 23 #[v] w (RetSs F w s)
theorem Val.eszF_mem : ∀ {s : List (Int × E)}, ∀ e ∈ s, esz e.2 ≤ eszF s ∧ s.length ≤ eszF s
 | (n, x) :: r, e, he => by
  rw [eszF]
  have h2 : r.length ≤ eszF r := by
   cases r with
   | nil => simp
   | cons q r => exact (Val.eszF_mem q (List.mem_cons_self ..)).2
  rcases List.mem_cons.1 he with rfl | he
  ·simp only [List.length_cons]; omega
  ·have := (Val.eszF_mem e he).1; simp only [List.length_cons]; omega
theorem Val.eszS_mem : ∀ {s : List (Int × Int × V × E)}, ∀ e ∈ s, vmx e.2.2.1 ≤ eszS s ∧ esz e.2.2.2 ≤ eszS s ∧ s.length ≤ eszS s
 | (a, b, v, x) :: r, e, he => by
  rw [eszS]
  have h2 : r.length ≤ eszS r := by
   cases r with
   | nil => simp
   | cons q r => exact (Val.eszS_mem q (List.mem_cons_self ..)).2.2
  rcases List.mem_cons.1 he with rfl | he
  ·simp only [List.length_cons]; omega
  ·have := Val.eszS_mem e he; simp only [List.length_cons]; omega
theorem Val.eszK_mem : ∀ {s : List (V × E)}, ∀ e ∈ s, vmx e.1 ≤ eszK s ∧ esz e.2 ≤ eszK s ∧ s.length ≤ eszK s
 | (v, x) :: r, e, he => by
  rw [eszK]
  have h2 : r.length ≤ eszK r := by
   cases r with
   | nil => simp
   | cons q r => exact (Val.eszK_mem q (List.mem_cons_self ..)).2.2
  rcases List.mem_cons.1 he with rfl | he
  ·simp only [List.length_cons]; omega
  ·have := Val.eszK_mem e he; simp only [List.length_cons]; omega
theorem rsteps_at (N : Nat) (ih : ROf21At N) : RStAt N := by
 intro F s v es w hF hs hb hv hes
 obtain ⟨a1, c1, rfl, b1, b2, b3⟩ := hv.len
 have HSb : Hid (∀ e ∈ s, SizeOf.sizeOf e.2.2.2 < N ∧ vmx e.2.2.1 ≤ 90000 ∧ esz e.2.2.2 ≤ 90000) := fun e he => by have h1 := Val.eszS_mem e he; exact ⟨hs e he, by omega, by omega⟩
 have Hsl : Hid (s.length ≤ 90000) := by
  show _ ≤ _
  cases s with
  | nil => simp
  | cons q r => have h1 := Val.eszS_mem q (List.mem_cons_self (a := q) (l := r)); omega
 have HX1 : Hid (FlatC 30 (fragE w F) (.slice a1 es.length c1) es ∧ ESs (fragE w F) s es) := ⟨hv, hes⟩
 have Hm1 := Yq hes.len
 obtain ⟨ns, hn⟩ : ∃ z, z = es.length := ⟨_, rfl⟩
 rw [← hn] at HX1 ⊢
 have Hn := Yq hn.symm
 have HFw := Yq hF
 have hns : ns ≤ 9223372036854775807 := by rw [hn, Hm1.out]; have := Hsl.out; omega
 clear hn hv hes hs hb hF b1 b2 b3
 go_enter Tryz.func23, Tryz.ntmps23
 have HO0 := Yq ((OwnF.start (Own.nil w) F [] (fun r hr => by cases hr)).lit 94 30)
 go_wp2_with fail
 go_simp
 go_loopw [3, 9] (fun u i wr => ∃ (k : Nat) (ds : List (List Value)), k ≤ ns ∧ i = .int .i64 k ∧ Hid (OwnF F w [] [rowC 94 30 u ds] (fun h => ESs h (s.take k) ds) wr) ∧ Hid (ds.length = k)) (fun _ i _ => ns - (intOf i).toNat)
 case atStart => exact ⟨0, [], Nat.zero_le _, rfl, Yq (HO0.out.read ESs.monoF (fun _ => by simp [ESs])), Yq rfl⟩
 case round =>
  obtain ⟨k, ds, hkn, rfl, HO, HDl⟩ := hrel
  replace HO := HO.out
  by_cases hlt : k < ns
  ·have hks : k < es.length := by rw [Hn.out]; exact hlt
   have hkf : k < s.length := by rw [← Hm1.out]; exact hks
   obtain ⟨b0, o0, hb0, hidx, hcell⟩ := FlatC.at (n := ns) (cap := c1) (a := a1) (HX1.out.1.mono (fragE_le _ _)) (by decide) (i := k) hks Tryz.underlying29 sizeES
   have hr : wr.rangeAt b0 o0 es[k] := range_below hcell HO.below hb0
   obtain ⟨vc, xc, hx, rv, rx⟩ := HX1.out.2.at hkf hks
   rw [hx] at hr
   have HLv := Yq rv.len; have HLx := Yq rx.len
   have HL30 : Hid ((Value.int .i64 s[k].1 :: .int .i64 s[k].2.1 :: (vc ++ xc)).length = 30) := by show _ = _; simp [rv.len, rx.len]
   have H1 := Yq (one_cons (k := s[k].1) (one_cons (k := s[k].2.1) (one_app rv.ones rx.ones)))
   have HT : Hid (s.take (k + 1) = s.take k ++ [(s[k].1, s[k].2.1, s[k].2.2.1, s[k].2.2.2)]) := List.take_succ_eq_append_getElem hkf
   have HRg := Yq (HSb.out _ (List.getElem_mem hkf))
   have HV : Hid (VR (fragE w F) s[k].2.2.1 vc) := rv
   have HX : Hid (ER (fragE w F) s[k].2.2.2 xc) := rx
   clear hcell hx rv rx
   generalize s[k].1 = kd at *
   generalize s[k].2.1 = ct at *
   generalize s[k].2.2.1 = v1 at *
   generalize s[k].2.2.2 = x1 at *
   obtain ⟨st, hst⟩ : ∃ z, z = s.take k := ⟨_, rfl⟩
   rw [← hst] at HO HT
   clear hst hkf hks
   go_wp2_with (first
    | ((with_reducible refine atOp (.load 87 _) ?_); refine wpList_load_seg rfl 87 _ rfl _ _ rfl _ _ hr Tryz.underlying87 rfl (iC infoES HL30) ?_)
    | ((with_reducible refine atOp (.alloc 87) ?_); refine wpList_alloc_ownF rfl 87 rfl (zES) zeroES HO ?_; clear HO; intro w4 g7 HO)
    | ((with_reducible refine atOp (.store 87 _ _) ?_); refine wpList_store_ownF 0 rfl 87 _ _ rfl _ 0 ((Value.int .i64 kd :: .int .i64 ct :: (vc ++ xc))) rfl rfl HO rfl (iC infoES HL30) (by rw [HL30.out]; decide) H1.out (patch_whole' _ _ (by rw [HL30.out]; rfl)) ?_; clear HO hr hidx; intro w5 HO)
    | fail)
   replace HO : OwnF F w [(g7, (Value.int .i64 kd :: .int .i64 ct :: (vc ++ xc)))] [rowC 94 30 u3 ds] (fun h => ESs h st ds) w5.drew := HO.drew
   refine wp_region_G 13 (fun _ => True) (fun w' => Own w [(g7, (Value.int .i64 kd :: .int .i64 ct :: (vc ++ xc)))] w') (by kernel_rfl) trivial HO.own (fun _ => ?_)
   refine wpAnyG_take (i := 0) (v := u3) rfl (by kernel_rfl) (fun _ _ _ h => h) (.inl ⟨by rfl, fun w hw => by go_simp⟩) (mkG HO.own) ?_
   refine fOf21A15_29 ?_
   refine wpAnyG_take (i := 1) (v := .pointer (some ⟨g7, 0, none⟩)) rfl (by kernel_rfl) (fun _ _ _ h => h) (.inl ⟨by rfl, fun w hw => by go_simp⟩) (mkG HO.own) ?_
   refine fOf21A15_29 ?_
   refine wpAnyG_take (i := 2) (v := .int .i64 kd) rfl (by kernel_rfl) (fun _ _ _ h => h) (.inl ⟨by rfl, fun w hw => by have hc := (hw.2.at 0 rfl).cell (o := 0) (u := .int .i64 kd) rfl; clear hw; go_simp⟩) (mkG HO.own) ?_
   refine fOf21A15_29 ?_
   refine wpAnyG_take (i := 3) (v := .pointer (some ⟨g7, 1, none⟩)) rfl (by kernel_rfl) (fun _ _ _ h => h) (.inl ⟨by rfl, fun w hw => by go_simp⟩) (mkG HO.own) ?_
   refine fOf21A15_29 ?_
   refine wpAnyG_take (i := 4) (v := .int .i64 ct) rfl (by kernel_rfl) (fun _ _ _ h => h) (.inl ⟨by rfl, fun w hw => by have hc := (hw.2.at 0 rfl).cell (o := 1) (u := .int .i64 ct) rfl; clear hw; go_simp⟩) (mkG HO.own) ?_
   refine fOf21A15_29 ?_
   refine wpAnyG_take (i := 5) (v := .pointer (some ⟨g7, 2, none⟩)) rfl (by kernel_rfl) (fun _ _ _ h => h) (.inl ⟨by rfl, fun w hw => by go_simp⟩) (mkG HO.own) ?_
   refine fOf21A15_29 ?_
   refine wpAnyG_take (i := 6) (v := .agg vc.toArray) rfl (by kernel_rfl) (fun _ _ _ h => h) (yieldsIf_load_mid (by rfl) 27 _ rfl g7 2 (by go_simp) vc _ (fun w h => (h.2.at 0 rfl).range (p := [.int .i64 kd, .int .i64 ct]) rfl rfl) Tryz.underlying27 rfl (iC infoV HLv)) (mkG HO.own) ?_
   refine fOf21A15_29 ?_
   refine wpAnyG_take (i := 8) (v := .pointer (some ⟨g7, 9, none⟩)) rfl (by kernel_rfl) (fun _ _ _ h => h) (.inl ⟨by rfl, fun w hw => by go_simp⟩) (mkG HO.own) ?_
   refine fOf21A15_29 ?_
   refine wpAnyG_take (i := 9) (v := .agg xc.toArray) rfl (by kernel_rfl) (fun _ _ _ h => h) (yieldsIf_load_mid (by rfl) 32 _ rfl g7 9 (by go_simp) xc _ (fun w h => (h.2.at 0 rfl).range (p := .int .i64 kd :: .int .i64 ct :: vc) (q := xc) (r := []) (by simp) (by simp [HLv.out])) Tryz.underlying32 rfl (iC infoE HLx)) (mkG HO.own) ?_
   refine fOf21A15_29 ?_
   refine rdG (i := 7) (by kernel_rfl) rfl rfl (fun K hK => ?_)
   go_simp
   refine (rof_any (exF F _ _) v1 vc _ (HO.lt HFw.out) HRg.out.2.1 (HV.out.mono HO.args)).mono ?_
   rintro e w6 ⟨yc, rfl, hy, hbq⟩
   replace HO := (HO.call hbq).read (MonoF.and HO.mono (VR.monoF (x := v1) (c := yc))) (fun hr => ⟨hr, hy⟩)
   have HLy := Yq hy.len; have HOy := Yq hy.ones; clear hy hbq
   refine hK.out _ _ (mkG HO.own) (fun _ => ?_)
   clear hK
   refine fOf21A15_29 ?_
   refine rdG (i := 10) (by kernel_rfl) rfl rfl (fun K hK => ?_)
   go_simp
   refine (ih (exF F _ _) x1 xc _ (HO.lt HFw.out) HRg.out.1 HRg.out.2.2 (HX.out.mono HO.args)).mono ?_
   rintro e w7 ⟨zc, rfl, hy, hbq⟩
   replace HO := (HO.call hbq).read (MonoF.and HO.mono (ER.monoF (x := x1) (c := zc))) (fun hr => ⟨hr, hy⟩)
   have HLz := Yq hy.len; have HOz := Yq hy.ones; clear hy hbq
   refine hK.out _ _ (mkG HO.own) (fun _ => ?_)
   clear hK
   refine fOf21A15_29 ?_
   have HNl : Hid ((Value.int .i64 kd :: .int .i64 ct :: (yc ++ zc)).length = 30) := by show _ = _; simp [HLy.out, HLz.out]
   have HN1 := Yq (one_cons (k := kd) (one_cons (k := ct) (one_app HOy.out HOz.out)))
   refine wpAnyG_take (i := 11) (v := .agg (Value.int .i64 kd :: .int .i64 ct :: (yc ++ zc)).toArray) rfl (by kernel_rfl) (fun _ _ _ h => h) (yieldsIf_buildN (by rfl) 94 _ rfl _ _ (by go_simp) (rb_oS kd ct HLy.out HLz.out)) (mkG HO.own) ?_
   refine fOf21A15_29 ?_
   refine rdG (i := 12) (by kernel_rfl) rfl rfl (fun K hK => ?_)
   refine wp_buildSlice1 49 94 _ rfl (Value.int .i64 kd :: .int .i64 ct :: (yc ++ zc)) (.agg (Value.int .i64 kd :: .int .i64 ct :: (yc ++ zc)).toArray) (by go_simp) Tryz.underlying49 (by rw [HNl.out]; exact oRES2) (by rw [HNl.out]; decide) (by rw [HNl.out]; decide) rfl ?_
   refine hK.out _ _ (mkG (HO.own.call ((Below.refl _ _).alloc (Nat.le_refl _) _))) (fun _ => ?_)
   clear hK
   refine fOf21A15_29 ?_
   refine rdG (i := 13) (by kernel_rfl) rfl rfl (fun K hK => ?_)
   refine wp_append_ownF (L := []) (M := []) T_oS _ _ rfl (Value.int .i64 kd :: .int .i64 ct :: (yc ++ zc)) HO (by go_simp) (by go_simp) HNl.out HN1.out (by rw [HDl.out]; have := Hsl.out; have := Hm1.out; have := Hn.out; omega) ?_
   intro u9 w9 HO9 hone9
   refine hK.out _ _ (InvG.past trivial (by kernel_rfl)) (fun _ => ?_)
   clear hK
   refine fOf21A15_29 ?_
   refine wpAnyG_take0 (i := 14) (v := u9) rfl (by kernel_rfl) (fun _ _ _ h => h) (.inl ⟨by rfl, fun w hw => by go_simp⟩) (InvG.past trivial (by kernel_rfl)) ?_
   refine fOf21A15_29 ?_
   refine wpAnyG_done (by kernel_rfl) ?_ _
   have HOn : Hid (OwnF F w [] [rowC 94 30 u9 (ds ++ [(Value.int .i64 kd :: .int .i64 ct :: (yc ++ zc))])] (fun h => ESs h (s.take (k + 1)) (ds ++ [(Value.int .i64 kd :: .int .i64 ct :: (yc ++ zc))])) w9) := Yq (by rw [rowC_snoc]; exact (HO9.read ESs.monoF (fun hr => by rw [HT.out]; exact ESs.snoc hr.1.1 hr.1.2 hr.2)).sub (List.nil_sublist _))
   clear HO9 HO
   go_wp2_with fail
   go_roundw
   case rel => exact ⟨k + 1, _, by omega, by go_num, HOn, Yq (by simp [HDl.out])⟩
   case measure => simp [intOf]; omega
  ·obtain rfl : k = ns := by omega
   have hrd := HO.done
   rw [List.take_of_length_le (by rw [← Hm1.out, Hn.out]; exact Nat.le_refl _)] at hrd
   have hP : Hid (RetSs F w s (.returned u3) wr) := ⟨u3, ds, rfl, HO.flat HFw.out (List.mem_cons_self ..) hrd.sizes, hrd, own_one (HO.rows.own (rowC 94 30 u3 ds) (by simp)), HO.below⟩
   clear HO hrd hkn hlt
   go_wp2_with fail
   go_ret
   exact hP.out
def Of21Cut (F : List (Option Nat)) (w : World) (g1 g2 : Nat) (xc : List Value) (kd : Int) (o nw : V) (r : Bool) (ro rn : ByteArray) (s : List (Int × Int × V × E)) (v3 : Value) (wx : World) : Prop := ∃ (g3 : Nat) (yo yn : List Value) (su : Value) (se2 : List (List Value)),
 v3 = .pointer (some ⟨g3, 0, none⟩) ∧ OwnF F w [(g3, cOE kd yo yn (.slice none 0 0) r ro rn su (.slice none 0 0)), (g2, zE), (g1, xc)] [rowC 76 22 (.slice none 0 0) [], rowC 80 28 (.slice none 0 0) []] (fun h => (VR h o yo ∧ VR h nw yn) ∧ FlatC 30 h su se2 ∧ ESs h s se2) wx ∧ (yo.length = 7 ∧ yn.length = 7) ∧ ((∀ u ∈ yo, u.oneCell' = true) ∧ ∀ u ∈ yn, u.oneCell' = true) ∧ su.oneCell' = true
theorem rof21_succ (N : Nat) (ih : ROf21At N) : ROf21At (N + 1) := by
 intro F x xc w hF hsz hmx hx
 obtain ⟨kd, o, nw, f, r, ro, rn, s, ks⟩ := x
 have HE0 : Hid (vmx o + vmx nw + eszF f + eszS s + eszK ks ≤ 90000) := by rw [esz] at hmx; exact hmx
 have HS1 : Hid (∀ e ∈ f, SizeOf.sizeOf e.2 < N ∧ esz e.2 ≤ 90000) := fun e h => ⟨by have := Val.esize_field (x := .mk kd o nw f r ro rn s ks) (m := e.1) (e := e.2) h; omega, by have := Val.eszF_mem e h; have := HE0.out; omega⟩
 have HSs : Hid (∀ e ∈ s, SizeOf.sizeOf e.2.2.2 < N) := fun e h => by have := Val.esize_step (x := .mk kd o nw f r ro rn s ks) (k := e.1) (c := e.2.1) (v := e.2.2.1) (e := e.2.2.2) h; omega
 have HS3 : Hid (∀ e ∈ ks, SizeOf.sizeOf e.2 < N ∧ vmx e.1 ≤ 90000 ∧ esz e.2 ≤ 90000) := fun e h => ⟨by have := Val.esize_key (x := .mk kd o nw f r ro rn s ks) (k := e.1) (e := e.2) h; omega, by have := Val.eszK_mem e h; have := HE0.out; omega, by have := Val.eszK_mem e h; have := HE0.out; omega⟩
 have Hln : Hid (f.length ≤ 90000 ∧ ks.length ≤ 90000) := by
  refine Yq ⟨?_, ?_⟩
  ·cases f with
   | nil => simp
   | cons q r => have h1 := Val.eszF_mem q (List.mem_cons_self (a := q) (l := r)); have := HE0.out; omega
  ·cases ks with
   | nil => simp
   | cons q r => have h1 := Val.eszK_mem q (List.mem_cons_self (a := q) (l := r)); have := HE0.out; omega
 rw [ER] at hx
 obtain ⟨oc, nc, fv, sv, kv, fe, se, ke, hxc, hsz2, ⟨h3, h4⟩, ⟨h5, h6, h7⟩, h8, h9, h10⟩ := hx
 obtain ⟨a1, c1, e1, b1, b2, b3⟩ := h5.len
 obtain ⟨a2, c2, e2, d1, d2, d3⟩ := h6.len
 obtain ⟨a3, c3, e3, p1, p2, p3⟩ := h7.len
 subst e1 e2 e3
 have HX1 : Hid (FlatC 22 (fragE w F) (.slice a1 fe.length c1) fe ∧ EFs (fragE w F) f fe) := ⟨h5, h8⟩
 have HX2 : Hid (FlatC 30 (fragE w F) (.slice a2 se.length c2) se ∧ ESs (fragE w F) s se) := ⟨h6, h9⟩
 have HX3 : Hid (FlatC 28 (fragE w F) (.slice a3 ke.length c3) ke ∧ EKs (fragE w F) ks ke) := ⟨h7, h10⟩
 have HVo := Yq h3; have HVn := Yq h4
 have HLo := Yq h3.len; have HLn := Yq h4.len
 have Hm1 := Yq h8.len; have Hm3 := Yq h10.len
 have H2 := Yq hsz2
 have HC := Yq (fun (w2 : World) (g : Nat) (hB : Blk w2 g xc) => EdAt.of h3.len h4.len (hxc ▸ hB))
 obtain ⟨ns1, hn1⟩ : ∃ z, z = fe.length := ⟨_, rfl⟩
 obtain ⟨ns3, hn3⟩ : ∃ z, z = ke.length := ⟨_, rfl⟩
 rw [← hn1, ← hn3] at HC
 rw [← hn1] at HX1; rw [← hn3] at HX3
 have Hn1 := Yq hn1.symm; have Hn3 := Yq hn3.symm
 have hns1 : ns1 ≤ 9223372036854775807 := by rw [hn1, Hm1.out]; have := Hln.out; omega
 have hns3 : ns3 ≤ 9223372036854775807 := by rw [hn3, Hm3.out]; have := Hln.out; omega
 have HFw := Yq hF
 clear hxc hsz2 h3 h4 h5 h6 h7 h8 h9 h10 b1 b2 b3 d1 d2 d3 p1 p2 p3 hF hsz hmx hn1 hn3
 go_enter Tryz.func10, Tryz.ntmps10
 have HO := OwnF.start (Own.nil w) F [rowC 76 22 (.slice none 0 0) [], rowC 80 28 (.slice none 0 0) []] (fun r hr => by simp only [List.mem_cons, List.not_mem_nil, or_false] at hr; rcases hr with rfl | rfl <;> exact ⟨rfl, rfl, rfl⟩)
 go_upto_region 1 with (first
 | ((with_reducible refine atOp (.box 32 _) ?_); refine wpList_box_ownF rfl 32 _ rfl xc rfl HO ?_; clear HO; intro w1 g1 HO)
 | ((with_reducible refine atOp (.alloc 52) ?_); refine wpList_alloc_ownF rfl 52 rfl zE oREz HO ?_; clear HO; intro w2 g2 HO)
 | fail)
 go_simp
 go_cut [3] from 3 to 25 (fun v3 wx => Of21Cut F w g1 g2 xc kd o nw r ro rn s v3 wx)
 case first =>
  replace HO : OwnF F w [(g2, zE), (g1, xc)] [rowC 76 22 (.slice none 0 0) [], rowC 80 28 (.slice none 0 0) []] (fun _ => True) w2.drew := HO.drew
  have HLx : Hid (∀ w' : World, Own w [(g2, zE), (g1, xc)] w' → EdAt w' g1 kd oc nc a1 ns1 c1 r ro rn a2 se.length c2 a3 ns3 c3) := fun w' h => HC.out _ _ (h.at 1 rfl)
  refine wp_region_G 19 (fun _ => True) (fun w' => Own w [(g2, zE), (g1, xc)] w') (by kernel_rfl) trivial HO.own (fun _ => ?_)
  refine wpAnyG_take (i := 0) (v := .pointer (some ⟨g1, 0, none⟩)) rfl (by kernel_rfl) (fun _ _ _ h => h) (.inl ⟨by rfl, fun w hw => by go_simp⟩) (mkG HO.own) ?_
  refine fOf21A20_66 ?_
  refine wpAnyG_take (i := 1) (v := .int .i64 kd) rfl (by kernel_rfl) (fun _ _ _ h => h) (.inl ⟨by rfl, fun w hw => by have hc := (HLx.out _ hw.2).c0; clear hw; go_simp⟩) (mkG HO.own) ?_
  refine fOf21A20_66 ?_
  refine wpAnyG_take (i := 2) (v := .pointer (some ⟨g1, 1, none⟩)) rfl (by kernel_rfl) (fun _ _ _ h => h) (.inl ⟨by rfl, fun w hw => by go_simp⟩) (mkG HO.own) ?_
  refine fOf21A20_66 ?_
  refine wpAnyG_take (i := 3) (v := .agg oc.toArray) rfl (by kernel_rfl) (fun _ _ _ h => h) (yieldsIf_load_mid (by rfl) 27 _ rfl g1 1 (by go_simp) oc _ (fun w h => (HLx.out _ h.2).r1) Tryz.underlying27 rfl (iC infoV HLo)) (mkG HO.own) ?_
  refine fOf21A20_66 ?_
  refine wpAnyG_take (i := 5) (v := .pointer (some ⟨g1, 8, none⟩)) rfl (by kernel_rfl) (fun _ _ _ h => h) (.inl ⟨by rfl, fun w hw => by go_simp⟩) (mkG HO.own) ?_
  refine fOf21A20_66 ?_
  refine wpAnyG_take (i := 6) (v := .agg nc.toArray) rfl (by kernel_rfl) (fun _ _ _ h => h) (yieldsIf_load_mid (by rfl) 27 _ rfl g1 8 (by go_simp) nc _ (fun w h => (HLx.out _ h.2).r8) Tryz.underlying27 rfl (iC infoV HLn)) (mkG HO.own) ?_
  refine fOf21A20_66 ?_
  refine wpAnyG_take (i := 8) (v := .pointer (some ⟨g1, 16, none⟩)) rfl (by kernel_rfl) (fun _ _ _ h => h) (.inl ⟨by rfl, fun w hw => by go_simp⟩) (mkG HO.own) ?_
  refine fOf21A20_66 ?_
  refine wpAnyG_take (i := 9) (v := .bool r) rfl (by kernel_rfl) (fun _ _ _ h => h) (.inl ⟨by rfl, fun w hw => by have hc := (HLx.out _ hw.2).c16; clear hw; go_simp⟩) (mkG HO.own) ?_
  refine fOf21A20_66 ?_
  refine wpAnyG_take (i := 10) (v := .pointer (some ⟨g1, 17, none⟩)) rfl (by kernel_rfl) (fun _ _ _ h => h) (.inl ⟨by rfl, fun w hw => by go_simp⟩) (mkG HO.own) ?_
  refine fOf21A20_66 ?_
  refine wpAnyG_take (i := 11) (v := .string ro) rfl (by kernel_rfl) (fun _ _ _ h => h) (.inl ⟨by rfl, fun w hw => by have hc := (HLx.out _ hw.2).c17; clear hw; go_simp⟩) (mkG HO.own) ?_
  refine fOf21A20_66 ?_
  refine wpAnyG_take (i := 12) (v := .pointer (some ⟨g1, 18, none⟩)) rfl (by kernel_rfl) (fun _ _ _ h => h) (.inl ⟨by rfl, fun w hw => by go_simp⟩) (mkG HO.own) ?_
  refine fOf21A20_66 ?_
  refine wpAnyG_take (i := 13) (v := .string rn) rfl (by kernel_rfl) (fun _ _ _ h => h) (.inl ⟨by rfl, fun w hw => by have hc := (HLx.out _ hw.2).c18; clear hw; go_simp⟩) (mkG HO.own) ?_
  refine fOf21A20_66 ?_
  refine wpAnyG_take (i := 14) (v := .pointer (some ⟨g1, 19, none⟩)) rfl (by kernel_rfl) (fun _ _ _ h => h) (.inl ⟨by rfl, fun w hw => by go_simp⟩) (mkG HO.own) ?_
  refine fOf21A20_66 ?_
  refine wpAnyG_take (i := 15) (v := .slice a2 se.length c2) rfl (by kernel_rfl) (fun _ _ _ h => h) (.inl ⟨by rfl, fun w hw => by have hc := (HLx.out _ hw.2).c19; clear hw; go_simp⟩) (mkG HO.own) ?_
  refine fOf21A20_66 ?_
  refine wpAnyG_ready (rs := [4, 18]) (by kernel_rfl) (by simp) ?_
  refine AllReadyG.plain rfl rfl (fun K hK => ?_) (AllReadyG.plain rfl rfl (fun K hK => ?_) AllReadyG.nil)
  ·go_simp
   refine (rof_any (exF F _ _) o oc _ (HO.lt HFw.out) (by have := HE0.out; omega) (HVo.out.mono HO.args)).mono ?_
   rintro e w6 ⟨yo, rfl, hy, hbq⟩
   replace HO := (HO.call hbq).read (MonoF.and HO.mono (VR.monoF (x := o) (c := yo))) (fun hr => ⟨hr, hy⟩)
   have HLy := Yq hy.len; have HOy := Yq hy.ones; clear hy hbq
   refine hK.out _ _ (mkG HO.own) (fun _ => ?_)
   clear hK
   refine fOf21A20_66 ?_
   refine wpAnyG_ready (rs := [7, 18]) (by kernel_rfl) (by simp) ?_
   refine AllReadyG.plain rfl rfl (fun K hK => ?_) (AllReadyG.plain rfl rfl (fun K hK => ?_) AllReadyG.nil)
   ·go_simp
    refine (rof_any (exF F _ _) nw nc _ (HO.lt HFw.out) (by have := HE0.out; omega) (HVn.out.mono HO.args)).mono ?_
    rintro e w7 ⟨yn, rfl, hy, hbq⟩
    replace HO := (HO.call hbq).read (MonoF.and HO.mono (VR.monoF (x := nw) (c := yn))) (fun hr => ⟨hr, hy⟩)
    have HLz := Yq hy.len; have HOz := Yq hy.ones; clear hy hbq
    refine hK.out _ _ (mkG HO.own) (fun _ => ?_)
    clear hK
    refine fOf21A20_66 ?_
    refine wpAnyG_ready (rs := [16, 18]) (by kernel_rfl) (by simp) ?_
    refine AllReadyG.plain rfl rfl (fun K hK => ?_) (AllReadyG.plain rfl rfl (fun K hK => ?_) AllReadyG.nil)
    ·go_simp
     refine (rsteps_at N ih (exF F _ _) s (.slice a2 se.length c2) se _ (HO.lt HFw.out) HSs.out (by have := HE0.out; omega) (HX2.out.1.mono HO.args) (HX2.out.2.mono HO.args)).mono ?_
     rintro e w8 ⟨su, se2, rfl, hy1, hy2, hy3, hbq⟩
     replace HO := (HO.call hbq).read (MonoF.and HO.mono (MonoF.and (FlatC.monoF (s := 30) (v := su) (c := se2)) (ESs.monoF (x := s) (c := se2)))) (fun hr => ⟨hr, hy1, hy2⟩)
     have HOs := Yq hy3; clear hy1 hy2 hy3 hbq
     refine hK.out _ _ (mkG HO.own) (fun _ => ?_)
     clear hK
     refine fOf21A20_66 ?_
     refine wpAnyG_take (i := 17) (v := .agg (cOE kd yo yn (.slice none 0 0) r ro rn su (.slice none 0 0)).toArray) rfl (by kernel_rfl) (fun _ _ _ h => h) (yieldsIf_buildN (by rfl) 52 _ rfl _ _ (by go_simp) (rb_oE kd r ro rn HLy.out HLz.out HOs.out)) (mkG HO.own) ?_
     refine fOf21A20_66 ?_
     refine rdG (i := 18) (by kernel_rfl) rfl rfl (fun K hK => ?_)
     refine wp_alloc_ownF 52 rfl zE oREz HO ?_
     clear HO; intro w5 g3 HO _ _
     refine hK.out _ _ (mkG (HO.own.tl)) (fun _ => ?_)
     clear hK
     refine fOf21A20_66 ?_
     refine rdG (i := 19) (by kernel_rfl) rfl rfl (fun K hK => ?_)
     refine wp_store_ownF 0 52 _ _ rfl g3 0 (.agg (cOE kd yo yn (.slice none 0 0) r ro rn su (.slice none 0 0)).toArray) (cOE kd yo yn (.slice none 0 0) r ro rn su (.slice none 0 0)) (by go_simp) (by go_simp) rfl HO rfl (oREi.trans (congrArg some (cOE_len HLy.out HLz.out).symm)) (by rw [cOE_len HLy.out HLz.out]; decide) (cOE_one HOy.out HOz.out rfl HOs.out rfl) (patch_whole' _ _ (by rw [cOE_len HLy.out HLz.out]; rfl)) ?_
     intro w9 HO9
     refine hK.out _ _ (InvG.past trivial (by kernel_rfl)) (fun _ => ?_)
     clear hK
     refine fOf21A20_66 ?_
     refine wpAnyG_done (by kernel_rfl) ?_ _
     have HCt := Yq (show Of21Cut F w g1 g2 xc kd o nw r ro rn s (.pointer (some ⟨g3, 0, none⟩)) w9 from ⟨g3, yo, yn, su, se2, rfl, HO9.read (MonoF.and (MonoF.and VR.monoF VR.monoF) (MonoF.and FlatC.monoF ESs.monoF)) (fun hr => ⟨⟨hr.1.1.2, hr.1.2⟩, hr.2⟩), ⟨HLy.out, HLz.out⟩, ⟨HOy.out, HOz.out⟩, HOs.out⟩)
     clear HO9 HO
     go_wp2_with fail
     go_meet
     exact HCt.out
    ·refine wp_alloc_ownF 52 rfl zE oREz HO ?_
     clear HO; intro w5 g3 HO _ _
     refine hK.out _ _ (mkG (HO.own.tl)) (fun _ => ?_)
     clear hK
     refine fOf21A20_66 ?_
     refine rdG (i := 16) (by kernel_rfl) rfl rfl (fun K hK => ?_)
     go_simp
     refine (rsteps_at N ih (exF F _ _) s (.slice a2 se.length c2) se _ (HO.lt HFw.out) HSs.out (by have := HE0.out; omega) (HX2.out.1.mono HO.args) (HX2.out.2.mono HO.args)).mono ?_
     rintro e w8 ⟨su, se2, rfl, hy1, hy2, hy3, hbq⟩
     replace HO := (HO.call hbq).read (MonoF.and HO.mono (MonoF.and (FlatC.monoF (s := 30) (v := su) (c := se2)) (ESs.monoF (x := s) (c := se2)))) (fun hr => ⟨hr, hy1, hy2⟩)
     have HOs := Yq hy3; clear hy1 hy2 hy3 hbq
     refine hK.out _ _ (mkG (HO.own.tl)) (fun _ => ?_)
     clear hK
     refine fOf21A20_66 ?_
     refine wpAnyG_take (i := 17) (v := .agg (cOE kd yo yn (.slice none 0 0) r ro rn su (.slice none 0 0)).toArray) rfl (by kernel_rfl) (fun _ _ _ h => h) (yieldsIf_buildN (by rfl) 52 _ rfl _ _ (by go_simp) (rb_oE kd r ro rn HLy.out HLz.out HOs.out)) (mkG (HO.own.tl)) ?_
     refine fOf21A20_66 ?_
     refine rdG (i := 19) (by kernel_rfl) rfl rfl (fun K hK => ?_)
     refine wp_store_ownF 0 52 _ _ rfl g3 0 (.agg (cOE kd yo yn (.slice none 0 0) r ro rn su (.slice none 0 0)).toArray) (cOE kd yo yn (.slice none 0 0) r ro rn su (.slice none 0 0)) (by go_simp) (by go_simp) rfl HO rfl (oREi.trans (congrArg some (cOE_len HLy.out HLz.out).symm)) (by rw [cOE_len HLy.out HLz.out]; decide) (cOE_one HOy.out HOz.out rfl HOs.out rfl) (patch_whole' _ _ (by rw [cOE_len HLy.out HLz.out]; rfl)) ?_
     intro w9 HO9
     refine hK.out _ _ (InvG.past trivial (by kernel_rfl)) (fun _ => ?_)
     clear hK
     refine fOf21A20_66 ?_
     refine wpAnyG_done (by kernel_rfl) ?_ _
     have HCt := Yq (show Of21Cut F w g1 g2 xc kd o nw r ro rn s (.pointer (some ⟨g3, 0, none⟩)) w9 from ⟨g3, yo, yn, su, se2, rfl, HO9.read (MonoF.and (MonoF.and VR.monoF VR.monoF) (MonoF.and FlatC.monoF ESs.monoF)) (fun hr => ⟨⟨hr.1.1.2, hr.1.2⟩, hr.2⟩), ⟨HLy.out, HLz.out⟩, ⟨HOy.out, HOz.out⟩, HOs.out⟩)
     clear HO9 HO
     go_wp2_with fail
     go_meet
     exact HCt.out
   ·refine wp_alloc_ownF 52 rfl zE oREz HO ?_
    clear HO; intro w5 g3 HO _ _
    refine hK.out _ _ (mkG (HO.own.tl)) (fun _ => ?_)
    clear hK
    refine fOf21A20_66 ?_
    refine rdG (i := 7) (by kernel_rfl) rfl rfl (fun K hK => ?_)
    go_simp
    refine (rof_any (exF F _ _) nw nc _ (HO.lt HFw.out) (by have := HE0.out; omega) (HVn.out.mono HO.args)).mono ?_
    rintro e w7 ⟨yn, rfl, hy, hbq⟩
    replace HO := (HO.call hbq).read (MonoF.and HO.mono (VR.monoF (x := nw) (c := yn))) (fun hr => ⟨hr, hy⟩)
    have HLz := Yq hy.len; have HOz := Yq hy.ones; clear hy hbq
    refine hK.out _ _ (mkG (HO.own.tl)) (fun _ => ?_)
    clear hK
    refine fOf21A20_66 ?_
    refine rdG (i := 16) (by kernel_rfl) rfl rfl (fun K hK => ?_)
    go_simp
    refine (rsteps_at N ih (exF F _ _) s (.slice a2 se.length c2) se _ (HO.lt HFw.out) HSs.out (by have := HE0.out; omega) (HX2.out.1.mono HO.args) (HX2.out.2.mono HO.args)).mono ?_
    rintro e w8 ⟨su, se2, rfl, hy1, hy2, hy3, hbq⟩
    replace HO := (HO.call hbq).read (MonoF.and HO.mono (MonoF.and (FlatC.monoF (s := 30) (v := su) (c := se2)) (ESs.monoF (x := s) (c := se2)))) (fun hr => ⟨hr, hy1, hy2⟩)
    have HOs := Yq hy3; clear hy1 hy2 hy3 hbq
    refine hK.out _ _ (mkG (HO.own.tl)) (fun _ => ?_)
    clear hK
    refine fOf21A20_66 ?_
    refine wpAnyG_take (i := 17) (v := .agg (cOE kd yo yn (.slice none 0 0) r ro rn su (.slice none 0 0)).toArray) rfl (by kernel_rfl) (fun _ _ _ h => h) (yieldsIf_buildN (by rfl) 52 _ rfl _ _ (by go_simp) (rb_oE kd r ro rn HLy.out HLz.out HOs.out)) (mkG (HO.own.tl)) ?_
    refine fOf21A20_66 ?_
    refine rdG (i := 19) (by kernel_rfl) rfl rfl (fun K hK => ?_)
    refine wp_store_ownF 0 52 _ _ rfl g3 0 (.agg (cOE kd yo yn (.slice none 0 0) r ro rn su (.slice none 0 0)).toArray) (cOE kd yo yn (.slice none 0 0) r ro rn su (.slice none 0 0)) (by go_simp) (by go_simp) rfl HO rfl (oREi.trans (congrArg some (cOE_len HLy.out HLz.out).symm)) (by rw [cOE_len HLy.out HLz.out]; decide) (cOE_one HOy.out HOz.out rfl HOs.out rfl) (patch_whole' _ _ (by rw [cOE_len HLy.out HLz.out]; rfl)) ?_
    intro w9 HO9
    refine hK.out _ _ (InvG.past trivial (by kernel_rfl)) (fun _ => ?_)
    clear hK
    refine fOf21A20_66 ?_
    refine wpAnyG_done (by kernel_rfl) ?_ _
    have HCt := Yq (show Of21Cut F w g1 g2 xc kd o nw r ro rn s (.pointer (some ⟨g3, 0, none⟩)) w9 from ⟨g3, yo, yn, su, se2, rfl, HO9.read (MonoF.and (MonoF.and VR.monoF VR.monoF) (MonoF.and FlatC.monoF ESs.monoF)) (fun hr => ⟨⟨hr.1.1.2, hr.1.2⟩, hr.2⟩), ⟨HLy.out, HLz.out⟩, ⟨HOy.out, HOz.out⟩, HOs.out⟩)
    clear HO9 HO
    go_wp2_with fail
    go_meet
    exact HCt.out
  ·refine wp_alloc_ownF 52 rfl zE oREz HO ?_
   clear HO; intro w5 g3 HO _ _
   refine hK.out _ _ (mkG (HO.own.tl)) (fun _ => ?_)
   clear hK
   refine fOf21A20_66 ?_
   refine rdG (i := 4) (by kernel_rfl) rfl rfl (fun K hK => ?_)
   go_simp
   refine (rof_any (exF F _ _) o oc _ (HO.lt HFw.out) (by have := HE0.out; omega) (HVo.out.mono HO.args)).mono ?_
   rintro e w6 ⟨yo, rfl, hy, hbq⟩
   replace HO := (HO.call hbq).read (MonoF.and HO.mono (VR.monoF (x := o) (c := yo))) (fun hr => ⟨hr, hy⟩)
   have HLy := Yq hy.len; have HOy := Yq hy.ones; clear hy hbq
   refine hK.out _ _ (mkG (HO.own.tl)) (fun _ => ?_)
   clear hK
   refine fOf21A20_66 ?_
   refine rdG (i := 7) (by kernel_rfl) rfl rfl (fun K hK => ?_)
   go_simp
   refine (rof_any (exF F _ _) nw nc _ (HO.lt HFw.out) (by have := HE0.out; omega) (HVn.out.mono HO.args)).mono ?_
   rintro e w7 ⟨yn, rfl, hy, hbq⟩
   replace HO := (HO.call hbq).read (MonoF.and HO.mono (VR.monoF (x := nw) (c := yn))) (fun hr => ⟨hr, hy⟩)
   have HLz := Yq hy.len; have HOz := Yq hy.ones; clear hy hbq
   refine hK.out _ _ (mkG (HO.own.tl)) (fun _ => ?_)
   clear hK
   refine fOf21A20_66 ?_
   refine rdG (i := 16) (by kernel_rfl) rfl rfl (fun K hK => ?_)
   go_simp
   refine (rsteps_at N ih (exF F _ _) s (.slice a2 se.length c2) se _ (HO.lt HFw.out) HSs.out (by have := HE0.out; omega) (HX2.out.1.mono HO.args) (HX2.out.2.mono HO.args)).mono ?_
   rintro e w8 ⟨su, se2, rfl, hy1, hy2, hy3, hbq⟩
   replace HO := (HO.call hbq).read (MonoF.and HO.mono (MonoF.and (FlatC.monoF (s := 30) (v := su) (c := se2)) (ESs.monoF (x := s) (c := se2)))) (fun hr => ⟨hr, hy1, hy2⟩)
   have HOs := Yq hy3; clear hy1 hy2 hy3 hbq
   refine hK.out _ _ (mkG (HO.own.tl)) (fun _ => ?_)
   clear hK
   refine fOf21A20_66 ?_
   refine wpAnyG_take (i := 17) (v := .agg (cOE kd yo yn (.slice none 0 0) r ro rn su (.slice none 0 0)).toArray) rfl (by kernel_rfl) (fun _ _ _ h => h) (yieldsIf_buildN (by rfl) 52 _ rfl _ _ (by go_simp) (rb_oE kd r ro rn HLy.out HLz.out HOs.out)) (mkG (HO.own.tl)) ?_
   refine fOf21A20_66 ?_
   refine rdG (i := 19) (by kernel_rfl) rfl rfl (fun K hK => ?_)
   refine wp_store_ownF 0 52 _ _ rfl g3 0 (.agg (cOE kd yo yn (.slice none 0 0) r ro rn su (.slice none 0 0)).toArray) (cOE kd yo yn (.slice none 0 0) r ro rn su (.slice none 0 0)) (by go_simp) (by go_simp) rfl HO rfl (oREi.trans (congrArg some (cOE_len HLy.out HLz.out).symm)) (by rw [cOE_len HLy.out HLz.out]; decide) (cOE_one HOy.out HOz.out rfl HOs.out rfl) (patch_whole' _ _ (by rw [cOE_len HLy.out HLz.out]; rfl)) ?_
   intro w9 HO9
   refine hK.out _ _ (InvG.past trivial (by kernel_rfl)) (fun _ => ?_)
   clear hK
   refine fOf21A20_66 ?_
   refine wpAnyG_done (by kernel_rfl) ?_ _
   have HCt := Yq (show Of21Cut F w g1 g2 xc kd o nw r ro rn s (.pointer (some ⟨g3, 0, none⟩)) w9 from ⟨g3, yo, yn, su, se2, rfl, HO9.read (MonoF.and (MonoF.and VR.monoF VR.monoF) (MonoF.and FlatC.monoF ESs.monoF)) (fun hr => ⟨⟨hr.1.1.2, hr.1.2⟩, hr.2⟩), ⟨HLy.out, HLz.out⟩, ⟨HOy.out, HOz.out⟩, HOs.out⟩)
   clear HO9 HO
   go_wp2_with fail
   go_meet
   exact HCt.out
 case rest =>
  obtain ⟨g3, yo, yn, su, se2, rfl, HO1, hly, hoy, hos⟩ := hcut
  have HLy := Yq hly.1; have HLz := Yq hly.2; have HOy := Yq hoy.1; have HOz := Yq hoy.2; have HOs := Yq hos
  clear HO hly hoy hos
  have HO := HO1
  clear HO1
  have q15 := (HC.out _ _ (HO.at 2 rfl)).c15
  go_wp2_with fail
  clear q15
  go_loopw [29] (fun i wr => ∃ (k : Nat) (u : Value) (ds : List (List Value)), k ≤ ns1 ∧ i = .int .i64 k ∧ Hid (OwnF F w [(g3, cOE kd yo yn u r ro rn su (.slice none 0 0)), (g2, zE), (g1, xc)] [rowC 76 22 u ds, rowC 80 28 (.slice none 0 0) []] (fun h => ((VR h o yo ∧ VR h nw yn) ∧ FlatC 30 h su se2 ∧ ESs h s se2) ∧ EFs h (f.take k) ds) wr) ∧ Hid (ds.length = k)) (fun i _ => ns1 - (intOf i).toNat)
  case atStart => exact ⟨0, _, [], Nat.zero_le _, rfl, Yq (HO.read (MonoF.and (MonoF.and (MonoF.and VR.monoF VR.monoF) (MonoF.and FlatC.monoF ESs.monoF)) EFs.monoF) (fun hr => ⟨hr, by simp [EFs]⟩)), Yq rfl⟩
  case round =>
   obtain ⟨k, u, ds, hkn, rfl, HO2, HDl⟩ := hrel
   clear HO
   have HO := HO2.out
   clear HO2
   by_cases hlt : k < ns1
   ·have hks : k < fe.length := by rw [Hn1.out]; exact hlt
    have hkf : k < f.length := by rw [← Hm1.out]; exact hks
    obtain ⟨b0, o0, hb0, hidx, hcell⟩ := FlatC.at (n := ns1) (cap := c1) (a := a1) (HX1.out.1.mono (fragE_le _ _)) (by decide) (i := k) hks Tryz.underlying28 sizeEF
    have hr : wr.rangeAt b0 o0 fe[k] := range_below hcell HO.below hb0
    obtain ⟨ec, hx, rx⟩ := HX1.out.2.at hkf hks
    rw [hx] at hr
    have HLx := Yq rx.len
    have HL : Hid ((Value.int .i64 f[k].1 :: ec).length = 22) := by show _ = _; simp [rx.len]
    have H1 := Yq (one_cons (k := f[k].1) rx.ones)
    have HT : Hid (f.take (k + 1) = f.take k ++ [(f[k].1, f[k].2)]) := List.take_succ_eq_append_getElem hkf
    have HRg := Yq (HS1.out _ (List.getElem_mem hkf))
    have HX : Hid (ER (fragE w F) f[k].2 ec) := rx
    clear hcell hx rx
    generalize f[k].1 = num at *
    generalize f[k].2 = x1 at *
    obtain ⟨st, hst⟩ : ∃ z, z = f.take k := ⟨_, rfl⟩
    rw [← hst] at HO HT
    clear hst hkf hks
    go_wp2_with (first
     | ((with_reducible refine atOp (.load 74 _) ?_); refine wpList_load_seg rfl 74 _ rfl _ _ rfl _ _ hr Tryz.underlying74 rfl (iC infoEF HL) ?_)
     | ((with_reducible refine atOp (.alloc 74) ?_); refine wpList_alloc_ownF rfl 74 rfl ((.int .i64 0 :: zE)) zeroEF HO ?_; clear HO; intro w4 g7 HO)
     | ((with_reducible refine atOp (.store 74 _ _) ?_); refine wpList_store_ownF 0 rfl 74 _ _ rfl _ 0 ((Value.int .i64 num :: ec)) rfl rfl HO rfl (iC infoEF HL) (by rw [HL.out]; decide) H1.out (patch_whole' _ _ (by rw [HL.out]; rfl)) ?_; clear HO hr hidx; intro w5 HO)
     | fail)
    replace HO : OwnF F w [(g7, (Value.int .i64 num :: ec)), (g3, cOE kd yo yn u r ro rn su (.slice none 0 0)), (g2, zE), (g1, xc)] [rowC 76 22 u ds, rowC 80 28 (.slice none 0 0) []] (fun h => ((VR h o yo ∧ VR h nw yn) ∧ FlatC 30 h su se2 ∧ ESs h s se2) ∧ EFs h st ds) w5.drew := HO.drew
    refine wp_region_G 11 (fun _ => True) (fun w' => Own w [(g7, (Value.int .i64 num :: ec)), (g3, cOE kd yo yn u r ro rn su (.slice none 0 0)), (g2, zE), (g1, xc)] w') (by kernel_rfl) trivial HO.own (fun _ => ?_)
    refine wpAnyG_take (i := 0) (v := .pointer (some ⟨g3, 15, none⟩)) rfl (by kernel_rfl) (fun _ _ _ h => h) (.inl ⟨by rfl, fun w hw => by go_simp⟩) (mkG HO.own) ?_
    refine fOf21A12_66 ?_
    refine wpAnyG_take (i := 1) (v := u) rfl (by kernel_rfl) (fun _ _ _ h => h) (.inl ⟨by rfl, fun w hw => by have hc := (hw.2.at 1 rfl).cell (o := 15) (u := u) (cOE_f HLy.out HLz.out); clear hw; go_simp⟩) (mkG HO.own) ?_
    refine fOf21A12_66 ?_
    refine wpAnyG_take (i := 2) (v := .pointer (some ⟨g7, 0, none⟩)) rfl (by kernel_rfl) (fun _ _ _ h => h) (.inl ⟨by rfl, fun w hw => by go_simp⟩) (mkG HO.own) ?_
    refine fOf21A12_66 ?_
    refine wpAnyG_take (i := 3) (v := .int .i64 num) rfl (by kernel_rfl) (fun _ _ _ h => h) (.inl ⟨by rfl, fun w hw => by have hc := (hw.2.at 0 rfl).cell (o := 0) (u := .int .i64 num) rfl; clear hw; go_simp⟩) (mkG HO.own) ?_
    refine fOf21A12_66 ?_
    refine wpAnyG_take (i := 4) (v := .pointer (some ⟨g7, 1, none⟩)) rfl (by kernel_rfl) (fun _ _ _ h => h) (.inl ⟨by rfl, fun w hw => by go_simp⟩) (mkG HO.own) ?_
    refine fOf21A12_66 ?_
    refine wpAnyG_take (i := 5) (v := .agg ec.toArray) rfl (by kernel_rfl) (fun _ _ _ h => h) (yieldsIf_load_mid (by rfl) 32 _ rfl g7 1 (by go_simp) ec _ (fun w h => (h.2.at 0 rfl).range (p := [.int .i64 num]) (q := ec) (r := []) (by simp) rfl) Tryz.underlying32 rfl (iC infoE HLx)) (mkG HO.own) ?_
    refine fOf21A12_66 ?_
    refine rdG (i := 6) (by kernel_rfl) rfl rfl (fun K hK => ?_)
    go_simp
    refine (ih (exF F _ _) x1 ec _ (HO.lt HFw.out) HRg.out.1 HRg.out.2 (HX.out.mono HO.args)).mono ?_
    rintro e w7 ⟨yc, rfl, hy, hbq⟩
    replace HO := (HO.call hbq).read (MonoF.and HO.mono (ER.monoF (x := x1) (c := yc))) (fun hr => ⟨hr, hy⟩)
    have HLv := Yq hy.len; have HOv := Yq hy.ones; clear hy hbq
    refine hK.out _ _ (mkG HO.own) (fun _ => ?_)
    clear hK
    refine fOf21A12_66 ?_
    have HNl : Hid ((Value.int .i64 num :: yc).length = 22) := by show _ = _; simp [HLv.out]
    have HN1 := Yq (one_cons (k := num) HOv.out)
    refine wpAnyG_take (i := 7) (v := .agg (Value.int .i64 num :: yc).toArray) rfl (by kernel_rfl) (fun _ _ _ h => h) (yieldsIf_build2 (by rfl) 76 _ _ rfl [.int .i64 num] yc (.int .i64 num) (.agg yc.toArray) (by go_simp) (by go_simp) Tryz.underlying76 oREFz rfl rfl oinfI (iC oREi HLv) (by rw [HLv.out]; rfl) rfl rfl) (mkG HO.own) ?_
    refine fOf21A12_66 ?_
    refine rdG (i := 8) (by kernel_rfl) rfl rfl (fun K hK => ?_)
    refine wp_buildSlice1 48 76 _ rfl (Value.int .i64 num :: yc) (.agg (Value.int .i64 num :: yc).toArray) (by go_simp) Tryz.underlying48 (by rw [HNl.out]; exact oREF2) (by rw [HNl.out]; decide) (by rw [HNl.out]; decide) rfl ?_
    refine hK.out _ _ (mkG (HO.own.call ((Below.refl _ _).alloc (Nat.le_refl _) _))) (fun _ => ?_)
    clear hK
    refine fOf21A12_66 ?_
    refine rdG (i := 9) (by kernel_rfl) rfl rfl (fun K hK => ?_)
    refine wp_append_ownF (L := []) (M := [rowC 80 28 (.slice none 0 0) []]) T_oF _ _ rfl (Value.int .i64 num :: yc) HO (by go_simp) (by go_simp) HNl.out HN1.out (by rw [HDl.out]; have := Hln.out.1; have := Hm1.out; have := Hn1.out; omega) ?_
    intro u9 w9 HO9 hone9
    refine hK.out _ _ (mkG HO9.own) (fun _ => ?_)
    clear hK
    refine fOf21A12_66 ?_
    refine wpAnyG_take (i := 10) (v := .pointer (some ⟨g3, 15, none⟩)) rfl (by kernel_rfl) (fun _ _ _ h => h) (.inl ⟨by rfl, fun w hw => by go_simp⟩) (mkG HO9.own) ?_
    refine fOf21A12_66 ?_
    refine rdG (i := 11) (by kernel_rfl) rfl rfl (fun K hK => ?_)
    refine wp_store_ownF 1 48 _ _ rfl g3 15 u9 [u9] (by go_simp) (by go_simp) (one_cells hone9) HO9 rfl oREF1 (by rw [cOE_len HLy.out HLz.out]; exact Nat.le_of_ble_eq_true rfl) (by simpa using hone9) (cOE_fields HLy.out HLz.out) ?_
    intro w10 HO10
    refine hK.out _ _ (InvG.past trivial (by kernel_rfl)) (fun _ => ?_)
    clear hK
    refine fOf21A12_66 ?_
    refine wpAnyG_done (by kernel_rfl) ?_ _
    have HOn : Hid (OwnF F w [(g3, cOE kd yo yn u9 r ro rn su (.slice none 0 0)), (g2, zE), (g1, xc)] [rowC 76 22 u9 (ds ++ [(Value.int .i64 num :: yc)]), rowC 80 28 (.slice none 0 0) []] (fun h => ((VR h o yo ∧ VR h nw yn) ∧ FlatC 30 h su se2 ∧ ESs h s se2) ∧ EFs h (f.take (k + 1)) (ds ++ [(Value.int .i64 num :: yc)])) w10) := Yq (by rw [rowC_snoc]; exact (HO10.read (MonoF.and (MonoF.and (MonoF.and VR.monoF VR.monoF) (MonoF.and FlatC.monoF ESs.monoF)) EFs.monoF) (fun hr => ⟨hr.1.1, by rw [HT.out]; exact EFs.snoc hr.1.2 hr.2⟩)).sub (List.sublist_cons_self _ _))
    clear HO9 HO HO10
    go_wp2_with fail
    go_roundw
    case rel => exact ⟨k + 1, _, _, by omega, by go_num, HOn, Yq (by simp [HDl.out])⟩
    case measure => simp [intOf]; omega
   ·obtain rfl : k = ns1 := by omega
    rw [List.take_of_length_le (by rw [← Hm1.out, Hn1.out]; exact Nat.le_refl _)] at HO
    obtain ⟨uf, huf⟩ : ∃ z, z = u := ⟨u, rfl⟩
    obtain ⟨fes, hfes⟩ : ∃ z, z = ds := ⟨ds, rfl⟩
    subst huf hfes
    have q20 := (HC.out _ _ (HO.at 2 rfl)).c20
    clear hkn hlt HDl
    go_wp2_with fail
    clear q20
    go_loopw [48] (fun i wr => ∃ (k : Nat) (u : Value) (ds : List (List Value)), k ≤ ns3 ∧ i = .int .i64 k ∧ Hid (OwnF F w [(g3, cOE kd yo yn uf r ro rn su u), (g2, zE), (g1, xc)] [rowC 76 22 uf fes, rowC 80 28 u ds] (fun h => (((VR h o yo ∧ VR h nw yn) ∧ FlatC 30 h su se2 ∧ ESs h s se2) ∧ EFs h f fes) ∧ EKs h (ks.take k) ds) wr) ∧ Hid (ds.length = k)) (fun i _ => ns3 - (intOf i).toNat)
    case atStart => exact ⟨0, _, [], Nat.zero_le _, rfl, Yq (HO.read (MonoF.and (MonoF.and (MonoF.and (MonoF.and VR.monoF VR.monoF) (MonoF.and FlatC.monoF ESs.monoF)) EFs.monoF) EKs.monoF) (fun hr => ⟨hr, by simp [EKs]⟩)), Yq rfl⟩
    case round =>
     obtain ⟨k, u, ds, hkn, rfl, HO2, HDl⟩ := hrel
     clear HO
     have HO := HO2.out
     clear HO2
     by_cases hlt : k < ns3
     ·have hks : k < ke.length := by rw [Hn3.out]; exact hlt
      have hkf : k < ks.length := by rw [← Hm3.out]; exact hks
      obtain ⟨b0, o0, hb0, hidx, hcell⟩ := FlatC.at (n := ns3) (cap := c3) (a := a3) (HX3.out.1.mono (fragE_le _ _)) (by decide) (i := k) hks Tryz.underlying30 sizeEK
      have hr : wr.rangeAt b0 o0 ke[k] := range_below hcell HO.below hb0
      obtain ⟨kc, ec, hx, rk, rx⟩ := HX3.out.2.at hkf hks
      rw [hx] at hr
      have HLx := Yq rx.len; have HLk := Yq rk.len
      have HL : Hid ((kc ++ ec).length = 28) := by show _ = _; simp [rx.len, rk.len]
      have H1 := Yq (one_app rk.ones rx.ones)
      have HT : Hid (ks.take (k + 1) = ks.take k ++ [(ks[k].1, ks[k].2)]) := List.take_succ_eq_append_getElem hkf
      have HRg := Yq (HS3.out _ (List.getElem_mem hkf))
      have HX : Hid (ER (fragE w F) ks[k].2 ec) := rx
      have HK : Hid (VR (fragE w F) ks[k].1 kc) := rk
      clear hcell hx rx rk
      generalize ks[k].1 = v1 at *
      generalize ks[k].2 = x1 at *
      obtain ⟨st, hst⟩ : ∃ z, z = ks.take k := ⟨_, rfl⟩
      rw [← hst] at HO HT
      clear hst hkf hks
      go_wp2_with (first
       | ((with_reducible refine atOp (.load 78 _) ?_); refine wpList_load_seg rfl 78 _ rfl _ _ rfl _ _ hr Tryz.underlying78 rfl (iC infoEK HL) ?_)
       | ((with_reducible refine atOp (.alloc 78) ?_); refine wpList_alloc_ownF rfl 78 rfl ((zV ++ zE)) zeroEK HO ?_; clear HO; intro w4 g7 HO)
       | ((with_reducible refine atOp (.store 78 _ _) ?_); refine wpList_store_ownF 0 rfl 78 _ _ rfl _ 0 ((kc ++ ec)) rfl rfl HO rfl (iC infoEK HL) (by rw [HL.out]; decide) H1.out (patch_whole' _ _ (by rw [HL.out]; rfl)) ?_; clear HO hr hidx; intro w5 HO)
       | fail)
      replace HO : OwnF F w [(g7, (kc ++ ec)), (g3, cOE kd yo yn uf r ro rn su u), (g2, zE), (g1, xc)] [rowC 76 22 uf fes, rowC 80 28 u ds] (fun h => (((VR h o yo ∧ VR h nw yn) ∧ FlatC 30 h su se2 ∧ ESs h s se2) ∧ EFs h f fes) ∧ EKs h st ds) w5.drew := HO.drew
      refine wp_region_G 12 (fun _ => True) (fun w' => Own w [(g7, (kc ++ ec)), (g3, cOE kd yo yn uf r ro rn su u), (g2, zE), (g1, xc)] w') (by kernel_rfl) trivial HO.own (fun _ => ?_)
      refine wpAnyG_take (i := 0) (v := .pointer (some ⟨g3, 20, none⟩)) rfl (by kernel_rfl) (fun _ _ _ h => h) (.inl ⟨by rfl, fun w hw => by go_simp⟩) (mkG HO.own) ?_
      refine fOf21A13_66 ?_
      refine wpAnyG_take (i := 1) (v := u) rfl (by kernel_rfl) (fun _ _ _ h => h) (.inl ⟨by rfl, fun w hw => by have hc := (hw.2.at 1 rfl).cell (o := 20) (u := u) (cOE_k HLy.out HLz.out); clear hw; go_simp⟩) (mkG HO.own) ?_
      refine fOf21A13_66 ?_
      refine wpAnyG_take (i := 2) (v := .pointer (some ⟨g7, 0, none⟩)) rfl (by kernel_rfl) (fun _ _ _ h => h) (.inl ⟨by rfl, fun w hw => by go_simp⟩) (mkG HO.own) ?_
      refine fOf21A13_66 ?_
      refine wpAnyG_take (i := 3) (v := .agg kc.toArray) rfl (by kernel_rfl) (fun _ _ _ h => h) (yieldsIf_load_mid (by rfl) 27 _ rfl g7 0 (by go_simp) kc _ (fun w h => (h.2.at 0 rfl).range (p := []) (q := kc) (r := ec) rfl rfl) Tryz.underlying27 rfl (iC infoV HLk)) (mkG HO.own) ?_
      refine fOf21A13_66 ?_
      refine wpAnyG_take (i := 5) (v := .pointer (some ⟨g7, 7, none⟩)) rfl (by kernel_rfl) (fun _ _ _ h => h) (.inl ⟨by rfl, fun w hw => by go_simp⟩) (mkG HO.own) ?_
      refine fOf21A13_66 ?_
      refine wpAnyG_take (i := 6) (v := .agg ec.toArray) rfl (by kernel_rfl) (fun _ _ _ h => h) (yieldsIf_load_mid (by rfl) 32 _ rfl g7 7 (by go_simp) ec _ (fun w h => (h.2.at 0 rfl).range (p := kc) (q := ec) (r := []) (by simp) HLk.out) Tryz.underlying32 rfl (iC infoE HLx)) (mkG HO.own) ?_
      refine fOf21A13_66 ?_
      refine rdG (i := 4) (by kernel_rfl) rfl rfl (fun K hK => ?_)
      go_simp
      refine (rof_any (exF F _ _) v1 kc _ (HO.lt HFw.out) HRg.out.2.1 (HK.out.mono HO.args)).mono ?_
      rintro e w6 ⟨zc, rfl, hy, hbq⟩
      replace HO := (HO.call hbq).read (MonoF.and HO.mono (VR.monoF (x := v1) (c := zc))) (fun hr => ⟨hr, hy⟩)
      have HLw := Yq hy.len; have HOw := Yq hy.ones; clear hy hbq
      refine hK.out _ _ (mkG HO.own) (fun _ => ?_)
      clear hK
      refine fOf21A13_66 ?_
      refine rdG (i := 7) (by kernel_rfl) rfl rfl (fun K hK => ?_)
      go_simp
      refine (ih (exF F _ _) x1 ec _ (HO.lt HFw.out) HRg.out.1 HRg.out.2.2 (HX.out.mono HO.args)).mono ?_
      rintro e w7 ⟨yc, rfl, hy, hbq⟩
      replace HO := (HO.call hbq).read (MonoF.and HO.mono (ER.monoF (x := x1) (c := yc))) (fun hr => ⟨hr, hy⟩)
      have HLv := Yq hy.len; have HOv := Yq hy.ones; clear hy hbq
      refine hK.out _ _ (mkG HO.own) (fun _ => ?_)
      clear hK
      refine fOf21A13_66 ?_
      have HNl : Hid ((zc ++ yc).length = 28) := by show _ = _; simp [HLv.out, HLw.out]
      have HN1 := Yq (one_app HOw.out HOv.out)
      refine wpAnyG_take (i := 8) (v := .agg (zc ++ yc).toArray) rfl (by kernel_rfl) (fun _ _ _ h => h) (yieldsIf_build2 (by rfl) 80 _ _ rfl zc yc (.agg zc.toArray) (.agg yc.toArray) (by go_simp) (by go_simp) Tryz.underlying80 oREKz rfl (by rw [HLw.out]) (iC infoRV HLw) (iC oREi HLv) (by rw [HLw.out, HLv.out]; rfl) rfl rfl) (mkG HO.own) ?_
      refine fOf21A13_66 ?_
      refine rdG (i := 9) (by kernel_rfl) rfl rfl (fun K hK => ?_)
      refine wp_buildSlice1 50 80 _ rfl (zc ++ yc) (.agg (zc ++ yc).toArray) (by go_simp) Tryz.underlying50 (by rw [HNl.out]; exact oREK2) (by rw [HNl.out]; decide) (by rw [HNl.out]; decide) rfl ?_
      refine hK.out _ _ (mkG (HO.own.call ((Below.refl _ _).alloc (Nat.le_refl _) _))) (fun _ => ?_)
      clear hK
      refine fOf21A13_66 ?_
      refine rdG (i := 10) (by kernel_rfl) rfl rfl (fun K hK => ?_)
      refine wp_append_ownF (L := [rowC 76 22 uf fes]) (M := []) T_oK _ _ rfl (zc ++ yc) HO (by go_simp) (by go_simp) HNl.out HN1.out (by rw [HDl.out]; have := Hln.out.2; have := Hm3.out; have := Hn3.out; omega) ?_
      intro u9 w9 HO9 hone9
      refine hK.out _ _ (mkG HO9.own) (fun _ => ?_)
      clear hK
      refine fOf21A13_66 ?_
      refine wpAnyG_take (i := 11) (v := .pointer (some ⟨g3, 20, none⟩)) rfl (by kernel_rfl) (fun _ _ _ h => h) (.inl ⟨by rfl, fun w hw => by go_simp⟩) (mkG HO9.own) ?_
      refine fOf21A13_66 ?_
      refine rdG (i := 12) (by kernel_rfl) rfl rfl (fun K hK => ?_)
      refine wp_store_ownF 1 50 _ _ rfl g3 20 u9 [u9] (by go_simp) (by go_simp) (one_cells hone9) HO9 rfl oREK1 (by rw [cOE_len HLy.out HLz.out]; exact Nat.le_of_ble_eq_true rfl) (by simpa using hone9) (cOE_keys HLy.out HLz.out) ?_
      intro w10 HO10
      refine hK.out _ _ (InvG.past trivial (by kernel_rfl)) (fun _ => ?_)
      clear hK
      refine fOf21A13_66 ?_
      refine wpAnyG_done (by kernel_rfl) ?_ _
      have HOn : Hid (OwnF F w [(g3, cOE kd yo yn uf r ro rn su u9), (g2, zE), (g1, xc)] [rowC 76 22 uf fes, rowC 80 28 u9 (ds ++ [(zc ++ yc)])] (fun h => (((VR h o yo ∧ VR h nw yn) ∧ FlatC 30 h su se2 ∧ ESs h s se2) ∧ EFs h f fes) ∧ EKs h (ks.take (k + 1)) (ds ++ [(zc ++ yc)])) w10) := Yq (by rw [rowC_snoc]; exact (HO10.read (MonoF.and (MonoF.and (MonoF.and (MonoF.and VR.monoF VR.monoF) (MonoF.and FlatC.monoF ESs.monoF)) EFs.monoF) EKs.monoF) (fun hr => ⟨hr.1.1.1, by rw [HT.out]; exact EKs.snoc hr.1.1.2 hr.1.2 hr.2⟩)).sub (List.sublist_cons_self _ _))
      clear HO9 HO HO10
      go_wp2_with fail
      go_roundw
      case rel => exact ⟨k + 1, _, _, by omega, by go_num, HOn, Yq (by simp [HDl.out])⟩
      case measure => simp [intOf]; omega
     ·obtain rfl : k = ns3 := by omega
      rw [List.take_of_length_le (by rw [← Hm3.out, Hn3.out]; exact Nat.le_refl _)] at HO
      have hone : ∀ c ∈ cOE kd yo yn uf r ro rn su u, c.oneCell' = true := cOE_one HOy.out HOz.out (own_one (HO.rows.own (rowC 76 22 uf fes) (by simp))) HOs.out (own_one (HO.rows.own (rowC 80 28 u ds) (by simp)))
      have hlen : (cOE kd yo yn uf r ro rn su u).length = 21 := cOE_len HLy.out HLz.out
      have hER : ∀ (h : Frag), FlatC 22 h uf fes → FlatC 28 h u ds → (((VR h o yo ∧ VR h nw yn) ∧ FlatC 30 h su se2 ∧ ESs h s se2) ∧ EFs h f fes) ∧ EKs h ks ds → ER h (.mk kd o nw f r ro rn s ks) (cOE kd yo yn uf r ro rn su u) := fun h q1 q2 q3 => by
       rw [ER]; exact ⟨yo, yn, uf, su, u, fes, se2, ds, rfl, H2.out, q3.1.1.1, ⟨q1, q3.1.1.2.1, q2⟩, q3.1.2, q3.1.1.2.2, q3.2⟩
      have HER := Yq hER
      generalize hyc : cOE kd yo yn uf r ro rn su u = yc at *
      have HLe := Yq hlen; have HOe := Yq hone
      have r3 := (HO.at 0 rfl).whole
      clear hyc hER hlen hone hkn hlt HDl
      go_wp2_with (first
       | ((with_reducible refine atOp (.load 52 _) ?_); refine wpList_load_seg rfl 52 _ rfl _ _ rfl _ _ r3 Tryz.underlying52 rfl (iC oREi HLe) ?_)
       | ((with_reducible refine atOp (.store 52 _ _) ?_); refine wpList_store_ownF 1 rfl 52 _ _ rfl _ 0 yc rfl rfl HO rfl (iC oREi HLe) (by rw [HLe.out]; decide) HOe.out (patch_whole' _ _ (by rw [HLe.out]; rfl)) ?_; clear HO r3; intro wE HO)
       | fail)
      have hd := HO.done
      refine bodyPost_ret (v := .agg yc.toArray) ?_ rfl ⟨yc, rfl, HER.out _ (HO.flat HFw.out (List.mem_cons_self ..) hd.1.2.sizes) (HO.flat HFw.out (List.mem_cons_of_mem _ (List.mem_cons_self ..)) hd.2.sizes) hd, HO.below⟩
      exact results_blk rfl _ _ g2 yc rfl (HO.at 1 rfl) _ Tryz.underlying52 rfl (iC oREi HLe)
theorem rof21_all : ∀ N, ROf21At N
 | 0 => fun F x xc w hF h => absurd h (Nat.not_lt_zero _)
 | N + 1 => rof21_succ N (rof21_all N)
theorem rof21_any (F : List (Option Nat)) (x : E) (xc : List Value) (w : World) (hF : ∀ k, some k ∈ F → k < w.heap.size) (hb : esz x ≤ 90000) (hx : ER (fragE w F) x xc) :
  Calls Tryz.prog 10 #[.agg xc.toArray] w (RetRE F w x) := rof21_all _ F x xc w hF (Nat.lt_succ_self _) hb hx
end Go.Proofs.YtebekgdjknenlaaGreatDoor
