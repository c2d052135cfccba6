/- redlineref23.row, walked. -/
import Derived.Test.YtebekgdjknenlaaGreatDoorGpBA
set_option maxRecDepth 100000
set_option maxHeartbeats 8000000
set_option linter.unusedVariables false
set_option linter.unusedSimpArgs false
namespace Go.Proofs.YtebekgdjknenlaaGreatDoor
open Go.RowKit
open Val (V E right cmp eright ado adoF adoS adoK Res avalue esm esmF esmS esmK vmx esz eszF eszS eszK efields esteps ekeys get find withV putV mkM mkP mkL partB setRest headKind KI KP KeysOf allF allS allK)
theorem fRefRowA9_126 {P : Program} {M : Region.Mode} {O : Array Oper} {Q : Exit → Act → World → Prop} {Y Z : World → Prop} {f F : Nat} {a b c e g i j k l : Bool} {m n o p q r s t u v x y z a0 a1 a2 a3 a4 a5 a6 a7 a8 a9 aA aB aC aD aE aF aG aH aI aJ aK aL aM aN aO aP aQ aR aS aT aU aV aW aX aY aZ b0 b1 b2 b3 b4 b5 b6 b7 b8 b9 bA bB bC bD bE bF bG bH bI bJ bK bL bM bN bO bP bQ bR bS bT bU bV bW bX bY bZ c0 c1 c2 c3 c4 c5 c6 c7 c8 c9 cA cB cC cD cE cF cG cH cI cJ cK cL cM cN cO cP cQ cR cS cT cU cV cW cX cY cZ e0 e1 e2 e3 e4 : Value} {d} {w : World} (h : wpAnyG P M O Q Y Z f F #[a,b,c,e,g,i,j,k,l] ⟨#[m,n,o,p,q,r,s,t,u,v,x,y,z,a0,a1,a2,a3,a4,a5,a6,a7,a8,a9,aA,aB,aC,aD,aE,aF,aG,aH,aI,aJ,aK,aL,aM,aN,aO,aP,aQ,aR,aS,aT,aU,aV,aW,aX,aY,aZ,b0,b1,b2,b3,b4,b5,b6,b7,b8,b9,bA,bB,bC,bD,bE,bF,bG,bH,bI,bJ,bK,bL,bM,bN,bO,bP,bQ,bR,bS,bT,bU,bV,bW,bX,bY,bZ,c0,c1,c2,c3,c4,c5,c6,c7,c8,c9,cA,cB,cC,cD,cE,cF,cG,cH,cI,cJ,cK,cL,cM,cN,cO,cP,cQ,cR,cS,cT,cU,cV,cW,cX,cY,cZ,e0,e1,e2,e3,e4],d⟩ w) : wpAnyG P M O Q Y Z f F #[a,b,c,e,g,i,j,k,l] ⟨#[m,n,o,p,q,r,s,t,u,v,x,y,z,a0,a1,a2,a3,a4,a5,a6,a7,a8,a9,aA,aB,aC,aD,aE,aF,aG,aH,aI,aJ,aK,aL,aM,aN,aO,aP,aQ,aR,aS,aT,aU,aV,aW,aX,aY,aZ,b0,b1,b2,b3,b4,b5,b6,b7,b8,b9,bA,bB,bC,bD,bE,bF,bG,bH,bI,bJ,bK,bL,bM,bN,bO,bP,bQ,bR,bS,bT,bU,bV,bW,bX,bY,bZ,c0,c1,c2,c3,c4,c5,c6,c7,c8,c9,cA,cB,cC,cD,cE,cF,cG,cH,cI,cJ,cK,cL,cM,cN,cO,cP,cQ,cR,cS,cT,cU,cV,cW,cX,cY,cZ,e0,e1,e2,e3,e4],d⟩ w := h
theorem fRefRowA12_126 {P : Program} {M : Region.Mode} {O : Array Oper} {Q : Exit → Act → World → Prop} {Y Z : World → Prop} {f F : Nat} {a b c e g i j k l m n o : Bool} {p q r s t u v x y z a0 a1 a2 a3 a4 a5 a6 a7 a8 a9 aA aB aC aD aE aF aG aH aI aJ aK aL aM aN aO aP aQ aR aS aT aU aV aW aX aY aZ b0 b1 b2 b3 b4 b5 b6 b7 b8 b9 bA bB bC bD bE bF bG bH bI bJ bK bL bM bN bO bP bQ bR bS bT bU bV bW bX bY bZ c0 c1 c2 c3 c4 c5 c6 c7 c8 c9 cA cB cC cD cE cF cG cH cI cJ cK cL cM cN cO cP cQ cR cS cT cU cV cW cX cY cZ e0 e1 e2 e3 e4 e5 e6 e7 : Value} {d} {w : World} (h : wpAnyG P M O Q Y Z f F #[a,b,c,e,g,i,j,k,l,m,n,o] ⟨#[p,q,r,s,t,u,v,x,y,z,a0,a1,a2,a3,a4,a5,a6,a7,a8,a9,aA,aB,aC,aD,aE,aF,aG,aH,aI,aJ,aK,aL,aM,aN,aO,aP,aQ,aR,aS,aT,aU,aV,aW,aX,aY,aZ,b0,b1,b2,b3,b4,b5,b6,b7,b8,b9,bA,bB,bC,bD,bE,bF,bG,bH,bI,bJ,bK,bL,bM,bN,bO,bP,bQ,bR,bS,bT,bU,bV,bW,bX,bY,bZ,c0,c1,c2,c3,c4,c5,c6,c7,c8,c9,cA,cB,cC,cD,cE,cF,cG,cH,cI,cJ,cK,cL,cM,cN,cO,cP,cQ,cR,cS,cT,cU,cV,cW,cX,cY,cZ,e0,e1,e2,e3,e4,e5,e6,e7],d⟩ w) : wpAnyG P M O Q Y Z f F #[a,b,c,e,g,i,j,k,l,m,n,o] ⟨#[p,q,r,s,t,u,v,x,y,z,a0,a1,a2,a3,a4,a5,a6,a7,a8,a9,aA,aB,aC,aD,aE,aF,aG,aH,aI,aJ,aK,aL,aM,aN,aO,aP,aQ,aR,aS,aT,aU,aV,aW,aX,aY,aZ,b0,b1,b2,b3,b4,b5,b6,b7,b8,b9,bA,bB,bC,bD,bE,bF,bG,bH,bI,bJ,bK,bL,bM,bN,bO,bP,bQ,bR,bS,bT,bU,bV,bW,bX,bY,bZ,c0,c1,c2,c3,c4,c5,c6,c7,c8,c9,cA,cB,cC,cD,cE,cF,cG,cH,cI,cJ,cK,cL,cM,cN,cO,cP,cQ,cR,cS,cT,cU,cV,cW,cX,cY,cZ,e0,e1,e2,e3,e4,e5,e6,e7],d⟩ w := h
theorem fRefRowA14_126 {P : Program} {M : Region.Mode} {O : Array Oper} {Q : Exit → Act → World → Prop} {Y Z : World → Prop} {f F : Nat} {a b c e g i j k l m n o p q : Bool} {r s t u v x y z a0 a1 a2 a3 a4 a5 a6 a7 a8 a9 aA aB aC aD aE aF aG aH aI aJ aK aL aM aN aO aP aQ aR aS aT aU aV aW aX aY aZ b0 b1 b2 b3 b4 b5 b6 b7 b8 b9 bA bB bC bD bE bF bG bH bI bJ bK bL bM bN bO bP bQ bR bS bT bU bV bW bX bY bZ c0 c1 c2 c3 c4 c5 c6 c7 c8 c9 cA cB cC cD cE cF cG cH cI cJ cK cL cM cN cO cP cQ cR cS cT cU cV cW cX cY cZ e0 e1 e2 e3 e4 e5 e6 e7 e8 e9 : Value} {d} {w : World} (h : wpAnyG P M O Q Y Z f F #[a,b,c,e,g,i,j,k,l,m,n,o,p,q] ⟨#[r,s,t,u,v,x,y,z,a0,a1,a2,a3,a4,a5,a6,a7,a8,a9,aA,aB,aC,aD,aE,aF,aG,aH,aI,aJ,aK,aL,aM,aN,aO,aP,aQ,aR,aS,aT,aU,aV,aW,aX,aY,aZ,b0,b1,b2,b3,b4,b5,b6,b7,b8,b9,bA,bB,bC,bD,bE,bF,bG,bH,bI,bJ,bK,bL,bM,bN,bO,bP,bQ,bR,bS,bT,bU,bV,bW,bX,bY,bZ,c0,c1,c2,c3,c4,c5,c6,c7,c8,c9,cA,cB,cC,cD,cE,cF,cG,cH,cI,cJ,cK,cL,cM,cN,cO,cP,cQ,cR,cS,cT,cU,cV,cW,cX,cY,cZ,e0,e1,e2,e3,e4,e5,e6,e7,e8,e9],d⟩ w) : wpAnyG P M O Q Y Z f F #[a,b,c,e,g,i,j,k,l,m,n,o,p,q] ⟨#[r,s,t,u,v,x,y,z,a0,a1,a2,a3,a4,a5,a6,a7,a8,a9,aA,aB,aC,aD,aE,aF,aG,aH,aI,aJ,aK,aL,aM,aN,aO,aP,aQ,aR,aS,aT,aU,aV,aW,aX,aY,aZ,b0,b1,b2,b3,b4,b5,b6,b7,b8,b9,bA,bB,bC,bD,bE,bF,bG,bH,bI,bJ,bK,bL,bM,bN,bO,bP,bQ,bR,bS,bT,bU,bV,bW,bX,bY,bZ,c0,c1,c2,c3,c4,c5,c6,c7,c8,c9,cA,cB,cC,cD,cE,cF,cG,cH,cI,cJ,cK,cL,cM,cN,cO,cP,cQ,cR,cS,cT,cU,cV,cW,cX,cY,cZ,e0,e1,e2,e3,e4,e5,e6,e7,e8,e9],d⟩ w := h
theorem VR.ls {h : Frag} {y : V} {yc : List Value} (hv : VR h y yc) : ∃ a cap le, yc[5]? = some (.slice a le.length cap) ∧ FlatC 7 h (.slice a le.length cap) le ∧ LsR h y.list le := by
 cases y
 rw [VR] at hv
 obtain ⟨fv, lv, pv, fe, le, pe, rfl, _, ⟨h1, h2, h3⟩, _, h5, _⟩ := hv
 obtain ⟨a3, c3, rfl, _⟩ := h2.len
 exact ⟨a3, c3, le, rfl, h2, h5⟩
def cL (k : Int) (u : Value) : List Value := [.int .i64 k, .int .u64 0, .string ⟨#[]⟩, .slice none 0 0, .string ⟨#[]⟩, u, .slice none 0 0]
theorem one_cL {k : Int} {u : Value} (h : u.oneCell' = true) : ∀ x ∈ cL k u, x.oneCell' = true := by
 intro x hx
 simp only [cL, List.mem_cons, List.not_mem_nil, or_false] at hx
 rcases hx with rfl | rfl | rfl | rfl | rfl | rfl | rfl <;> first | rfl | exact h
theorem VR.mkL0 {h : Frag} {u : Value} (h1 : FlatC 7 h u []) : VR h (mkL []) (cL 0 u) := by
 show VR h Val.v0 (cL 0 u); unfold Val.v0; rw [VR]
 exact ⟨_, u, _, [], [], [], rfl, ⟨sz_empty, sz_empty⟩, ⟨FlatC.nil 8 h, h1, FlatC.nil 14 h⟩, by rw [FsR], by rw [LsR], by rw [PsR]⟩
theorem VR.mkL4 {h : Frag} {u : Value} {o : List V} {es : List (List Value)} (h1 : FlatC 7 h u es) (h2 : LsR h o es) (h0 : 0 < o.length) : VR h (mkL o) (cL 4 u) := by
 unfold mkL; rw [if_neg (by omega)]; rw [VR]
 exact ⟨_, u, _, [], es, [], rfl, ⟨sz_empty, sz_empty⟩, ⟨FlatC.nil 8 h, h1, FlatC.nil 14 h⟩, by rw [FsR], h2, by rw [PsR]⟩
theorem rowC_app (e : TypeId) (s : Nat) (u : Value) (es cs : List (List Value)) (n : Nat) (h : cs.length = n) : rowC e s u (es ++ cs) = ⟨e, s, u, es.length + n, es.flatten ++ cs.flatten⟩ := by simp [rowC, h]
theorem rrow_bad (F : List (Option Nat)) (sv : Value) (v : V) (vc : List Value) (w : World) (hk : ¬ (v.kind = 4 ∨ v.kind = 0)) (hv : VR (fragE w F) v vc) :
  Calls Tryz.prog 48 #[sv, .agg vc.toArray] w (RetN F w (.bad 13)) := by
 have HV0 := Yq hv.k0
 have d1 : (v.kind == 4) = false := by rw [beq_eq_false_iff_ne]; exact fun e => hk (.inl e)
 have d2 : (v.kind == 0) = false := by rw [beq_eq_false_iff_ne]; exact fun e => hk (.inr e)
 have d3 : ¬ v.kind = 4 := fun e => hk (.inl e)
 have d4 : ¬ v.kind = 0 := fun e => hk (.inr e)
 generalize v.kind = kd at *
 clear hv hk
 go_enter Tryz.func48, Tryz.ntmps48
 have HO := OwnF.start (Own.nil w) F [rowC 40 7 (.slice none 0 0) []] (fun r hr => by simp only [List.mem_singleton] at hr; subst hr; exact ⟨rfl, rfl, rfl⟩)
 go_upto_region 2 with (first
  | ((with_reducible refine atOp (.box 40 _) ?_); refine wpList_box_ownF rfl 40 _ rfl vc rfl HO ?_; clear HO; intro w1 gx HO)
  | (refine wpList_build0 rfl 40 rfl _ rp_build ?_; refine wpList_alloc_ownF rfl 40 rfl zV zeroRV HO ?_; clear HO; intro w3 g6 HO)
  | ((with_reducible refine atOp (.alloc 40) ?_); refine wpList_alloc_ownF rfl 40 rfl zV zeroRV HO ?_; clear HO; intro w2 g4 HO)
  | ((with_reducible refine atOp (.store 40 _ _) ?_); refine wpList_store_ownF 0 rfl 40 _ _ rfl _ 0 (cP 0 (.slice none 0 0)) rfl rfl HO rfl infoRV (Nat.le_refl _) (one_cP rfl) rfl ?_; clear HO; intro w4 HO)
  | fail)
 have v0 := (HO.at 2 rfl).cell HV0.out
 have hnn := (HO.at 0 rfl).whole
 go_wp2_with (first
  | ((with_reducible refine atOp (.load 40 _) ?_); refine wpList_load_seg rfl 40 _ rfl _ _ rfl _ _ hnn Tryz.underlying40 rfl infoRV ?_)
  | ((with_reducible refine atOp (.store 40 _ _) ?_); refine wpList_store_ownF 1 rfl 40 _ _ rfl _ 0 (cP 0 (.slice none 0 0)) rfl rfl HO rfl infoRV (Nat.le_refl _) (one_cP rfl) rfl ?_; clear HO; intro w6 HO)
  | fail)
 refine bodyPost_ret (v := .tuple #[.agg zV.toArray, .int .i64 13]) ?_ rfl (RetN.of HO.below ⟨rfl, rfl⟩)
 exact results2_blk rfl _ _ g4 zV _ rfl rfl (HO.at 1 rfl) _ Tryz.underlying40 rfl infoRV
theorem rrow_good (N : Nat) (ih : RDoAt N) (F : List (Option Nat)) (s : List (Int × Int × V × E)) (v : V) (sv : Value) (se : List (List Value)) (vc : List Value) (w : World) (hF : ∀ k, some k ∈ F → k < w.heap.size) (hs : ∀ e ∈ s, SizeOf.sizeOf e.2.2.2 < N) (hst : allS s) (hsm : esmS s)
  (hvr : ∀ y ∈ v.list, partB y = true) (hk : v.kind = 4 ∨ v.kind = 0) (hbd : vmx v + eszS s ≤ 90000) (hfl : FlatC 30 (fragE w F) sv se) (hse : ESs (fragE w F) s se) (hv : VR (fragE w F) v vc) :
  Calls Tryz.prog 48 #[sv, .agg vc.toArray] w (RetN F w (Val.rowT s v.list)) := by
 have HI0 := Yq (RowInv.start s v)
 have HV0 := Yq hv.k0
 have Hsl : Hid (s.length ≤ 90000 ∧ v.list.length ≤ 90000) := by
  refine Yq ⟨?_, ?_⟩
  ·cases s with
   | nil => simp
   | cons q r => have h1 := Val.eszS_at (s := q :: r) (k := 0) (by simp); omega
  ·have h1 := (Val.vmx_parts v).2.2; omega
 have HSb : Hid (∀ e ∈ s, ∀ y ∈ v.list, right y = true ∧ vmx y + esz e.2.2.2 ≤ 90000) := fun e he y hy => by
  have h1 := Val.vmxL_mem hy
  have h2 := (Val.vmx_parts v).2.2
  obtain ⟨i, hi, rfl⟩ := List.getElem_of_mem he
  have h3 := Val.eszS_at hi
  exact ⟨Val.part_right (hvr y hy), by omega⟩
 obtain ⟨al, cl, le, hv5, hlf, hls⟩ := hv.ls
 obtain ⟨a1, c1, rfl, b1, b2, b3⟩ := hfl.len
 obtain ⟨_, _, e0, l1, l2, l3⟩ := hlf.len
 cases e0
 have HLl := Yq (And.intro hlf hls)
 have HLc := Yq (And.intro l1 (And.intro l2 l3))
 have HX1 : Hid (FlatC 30 (fragE w F) (.slice a1 se.length c1) se ∧ ESs (fragE w F) s se) := ⟨hfl, hse⟩
 have Hm1 := Yq hse.len
 have Hvl := Yq hls.len
 have HV5 := Yq hv5
 obtain ⟨ns, hn⟩ : ∃ z, z = se.length := ⟨_, rfl⟩
 obtain ⟨n, hn2⟩ : ∃ z, z = le.length := ⟨_, rfl⟩
 rw [← hn] at HX1 ⊢
 rw [← hn2] at HLl HLc HV5 Hvl
 have Hn := Yq hn.symm
 have Hnl := Yq hn2.symm
 have hns : ns ≤ 9223372036854775807 := by rw [hn]; unfold maxLen at b2; omega
 have HFw := Yq hF; have HS := Yq hs; have HST := Yq hst; have HM := Yq hsm
 obtain ⟨R0, hR0⟩ : ∃ z, z = Val.rowT s v.list := ⟨_, rfl⟩
 rw [← hR0]
 have HR0 := Yq hR0
 obtain ⟨vl, hvl⟩ : ∃ z, z = v.list := ⟨_, rfl⟩
 rw [← hvl] at HR0 HI0 Hsl HSb HLl Hvl
 have Hvle := Yq hvl
 have hvk : v.kind = 4 ∨ v.kind = 0 := hk
 generalize v.kind = vk at hvk HV0
 clear hR0 hF hs hst hsm hvr hk hbd hfl hse hv hv5 hlf hls hn hn2 b1 b2 b3 l1 l2 l3 hvl
 go_enter Tryz.func48, Tryz.ntmps48
 have HO := OwnF.start (Own.nil w) F [rowC 40 7 (.slice none 0 0) []] (fun r hr => by simp only [List.mem_singleton] at hr; subst hr; exact ⟨rfl, rfl, rfl⟩)
 go_upto_region 2 with (first
  | ((with_reducible refine atOp (.box 40 _) ?_); refine wpList_box_ownF rfl 40 _ rfl vc rfl HO ?_; clear HO; intro w1 gx HO)
  | (refine wpList_build0 rfl 40 rfl _ rp_build ?_; refine wpList_alloc_ownF rfl 40 rfl zV zeroRV HO ?_; clear HO; intro w3 g6 HO)
  | ((with_reducible refine atOp (.alloc 40) ?_); refine wpList_alloc_ownF rfl 40 rfl zV zeroRV HO ?_; clear HO; intro w2 g4 HO)
  | ((with_reducible refine atOp (.store 40 _ _) ?_); refine wpList_store_ownF 0 rfl 40 _ _ rfl _ 0 (cP 0 (.slice none 0 0)) rfl rfl HO rfl infoRV (Nat.le_refl _) (one_cP rfl) rfl ?_; clear HO; intro w4 HO)
  | fail)
 have v0 := (HO.at 2 rfl).cell HV0.out
 go_simp
 go_cut [22] from 15 to 22 (fun st wx => st = .bool false ∧ wx = w4)
 case first =>
  rcases hvk with rfl | rfl
  all_goals
   go_wp2_with fail
   go_meet
   exact ⟨rfl, rfl⟩
 case rest =>
  obtain ⟨rfl, rfl⟩ := hcut
  clear v0 hvk
  go_wp2_with (first
   | (refine wpList_build0 rfl 40 rfl _ rp_build ?_; refine wpList_alloc_ownF rfl 40 rfl zV zeroRV HO ?_; clear HO; intro w5 g7 HO)
   | ((with_reducible refine atOp (.store 40 _ _) ?_); refine wpList_store_ownF 0 rfl 40 _ _ rfl _ 0 (cP 0 (.slice none 0 0)) rfl rfl HO rfl infoRV (Nat.le_refl _) (one_cP rfl) rfl ?_; clear HO; intro w6 HO)
   | fail)
  go_simp
  go_loopw [8, 27] (fun a i wr => ∃ (k m : Nat) (u : Value) (o : List V) (es : List (List Value)), k ≤ ns ∧ a = .int .i64 m ∧ i = .int .i64 k ∧ Hid (RowInv s v k (vl.drop m) o ∧ m ≤ n) ∧ Hid (OwnF F w [(g7, cL 0 u), (g6, cP 0 (.slice none 0 0)), (g4, zV), (gx, vc)] [rowC 40 7 u es] (fun h => LsR h o es) wr)) (fun _ i _ => ns - (intOf i).toNat)
  case atStart => exact ⟨0, 0, _, [], [], Nat.zero_le _, rfl, rfl, ⟨by simpa using HI0.out, Nat.zero_le _⟩, Yq (HO.read LsR.monoF (fun _ => by rw [LsR]))⟩
  case round =>
   clear HO
   obtain ⟨k, m, u, o, es, hkn, rfl, rfl, HI, HO2⟩ := hrel
   have HO := HO2.out
   clear HO2 HI0
   have Heo : Hid (es.length = o.length) := Yq HO.rd.len
   have Hol : Hid (o.length ≤ 180000) := by show _ ≤ _; have h1 := HI.out.1.2.2; have h2 := Hsl.out; have h3 := Hvle.out; rw [← h3] at h1; have h4 := Hm1.out; have h5 := Hn.out; omega
   have Hmn : Hid (m ≤ n ∧ n ≤ 90000) := Yq ⟨HI.out.2, by have h1 := Hvl.out; have h2 := Hsl.out; omega⟩
   have Hu1 : Hid (u.oneCell' = true) := Yq (own_one (HO.rows.own (rowC 40 7 u es) (by simp)))
   by_cases hlt : k < ns
   ·have hks : k < se.length := by rw [Hn.out]; exact hlt
    have hkf : k < s.length := by rw [← Hm1.out]; exact hks
    obtain ⟨b0, o0, hb0, hidx, hcell⟩ := FlatC.at (n := ns) (cap := c1) (a := a1) (HX1.out.1.mono (fragE_le _ _)) (by decide) (i := k) hks Tryz.underlying49 sizeRES
    have hr : wr.rangeAt b0 o0 se[k] := range_below hcell HO.below hb0
    obtain ⟨sc, ec, hx, rv, rx⟩ := HX1.out.2.at hkf hks
    rw [hx] at hr
    have HLs := Yq rv.len; have HLx := Yq rx.len; have HOs := Yq rv.ones
    have HL : Hid ((Value.int .i64 s[k].1 :: .int .i64 s[k].2.1 :: (sc ++ ec)).length = 30) := by show _ = _; simp [rv.len, rx.len]
    have H1 := Yq (one_cons (k := s[k].1) (one_cons (k := s[k].2.1) (one_app rv.ones rx.ones)))
    have HbadK := Yq (fun b (hR : Val.stepR s[k].1 s[k].2.1 s[k].2.2.1 s[k].2.2.2 (vl.drop m) o = .bad b) => (show R0 = .bad b from by rw [HR0.out, Hvle.out]; exact Val.rowT_bad (HI.out.1.bad hkf HST.out hR)))
    have HokK := Yq (fun l' o' (hR : Val.stepR s[k].1 s[k].2.1 s[k].2.2.1 s[k].2.2.2 (vl.drop m) o = .ok (l', o')) => HI.out.1.step hkf HST.out hR)
    have hsb := HST.out _ (List.getElem_mem hkf)
    have HDr := Yq (And.intro (HS.out _ (List.getElem_mem hkf)) (And.intro (Val.esmS_at HM.out _ (List.getElem_mem hkf)) (HSb.out _ (List.getElem_mem hkf))))
    have HVs : Hid (VR (fragE w F) s[k].2.2.1 sc) := rv
    have HX : Hid (ER (fragE w F) s[k].2.2.2 ec) := rx
    have Hbne := Yq (fun y => Val.ado_bad s[k].2.2.2 y)
    clear hcell hx rv rx HI
    generalize s[k].1 = kd at *
    generalize s[k].2.1 = ct at *
    generalize s[k].2.2.1 = v1 at *
    generalize s[k].2.2.2 = x1 at *
    clear hkf hks
    go_upto_region 9 with (first
     | ((with_reducible refine atOp (.load 94 _) ?_); refine wpList_load_seg rfl 94 _ rfl _ _ rfl _ _ hr Tryz.underlying94 rfl (iC infoRES HL) ?_)
     | ((with_reducible refine atOp (.alloc 94) ?_); refine wpList_alloc_ownF rfl 94 rfl (.int .i64 0 :: .int .i64 0 :: (zV ++ zE)) zeroRES HO ?_; clear HO; intro w4 gs HO)
     | ((with_reducible refine atOp (.store 94 _ _) ?_); refine wpList_store_ownF 0 rfl 94 _ _ rfl _ 0 ((Value.int .i64 kd :: .int .i64 ct :: (sc ++ ec))) rfl rfl HO rfl (iC infoRES HL) (by rw [HL.out]; decide) H1.out (patch_whole' _ _ (by rw [HL.out]; rfl)) ?_; clear HO hr hidx; intro w5 HO)
     | fail)
    have qs0 := (HO.at 0 rfl).cell (o := 0) (u := .int .i64 kd) rfl
    have qs1 := (HO.at 0 rfl).cell (o := 1) (u := .int .i64 ct) rfl
    have qv5 := (HO.at 4 rfl).cell HV5.out
    have hsub : IntKind.i64.wrap ((n : Int) - (m : Int)) = (n : Int) - (m : Int) := IntWalk.i64_in _ (by have := Hmn.out; omega)
    have Hdl : Hid ((vl.drop m).length = n - m) := Yq (by rw [List.length_drop, ← Hvl.out])
    rcases hsb with ⟨rfl, hc1, hc2⟩ | ⟨rfl, hp⟩ | ⟨rfl, hp⟩ | ⟨rfl, hp⟩
    ·obtain ⟨c, rfl⟩ : ∃ c : Nat, ct = (c : Int) := ⟨ct.toNat, by omega⟩
     have hst1 : Val.stepR 1 (c : Int) v1 x1 (vl.drop m) o = Val.keepR c (vl.drop m) o := by unfold Val.stepR; rw [if_pos rfl, Int.toNat_natCast]
     by_cases hl2 : n - m < c
     ·have HK : Hid (R0 = .bad 13) := HbadK.out 13 (by rw [hst1]; unfold Val.keepR; exact if_pos (by rw [Hdl.out]; exact hl2))
      have g1 : decide ((n : Int) - (m : Int) < (c : Int)) = true := decide_eq_true (by have := Hmn.out; omega)
      clear HbadK HokK Hbne hst1 hl2 hc1 hc2
      have hnn := (HO.at 2 rfl).whole
      go_wp2_with (first
       | ((with_reducible refine atOp (.load 40 _) ?_); refine wpList_load_seg rfl 40 _ rfl _ _ rfl _ _ hnn Tryz.underlying40 rfl infoRV ?_)
       | ((with_reducible refine atOp (.store 40 _ _) ?_); refine wpList_store_ownF 3 rfl 40 _ _ rfl _ 0 (cP 0 (.slice none 0 0)) rfl rfl HO rfl infoRV (Nat.le_refl _) (one_cP rfl) rfl ?_; clear HO; intro w6 HO)
       | fail)
      rw [HK.out]
      refine bodyPost_ret (v := .tuple #[.agg zV.toArray, .int .i64 13]) ?_ rfl (RetN.of HO.below ⟨rfl, rfl⟩)
      exact results2_blk rfl _ _ g4 zV _ rfl rfl (HO.at 3 rfl) _ Tryz.underlying40 rfl infoRV
     ·have HI' := Yq (HokK.out _ _ (show Val.stepR 1 (c : Int) v1 x1 (vl.drop m) o = .ok ((vl.drop m).drop c, o ++ (vl.drop m).take c) from by rw [hst1]; unfold Val.keepR; exact if_neg (by rw [Hdl.out]; exact hl2)))
      have g1 : decide ((n : Int) - (m : Int) < (c : Int)) = false := decide_eq_false (by have := Hmn.out; omega)
      have hadd : IntKind.i64.wrap ((m : Int) + (c : Int)) = ((m + c : Nat) : Int) := by rw [IntWalk.i64_in _ (by have := Hmn.out; omega)]; omega
      have Hmc : Hid (m + c ≤ n) := Yq (by have := Hmn.out; omega)
      have hmc3 : m + c ≤ cl := by have := Hmc.out; have := HLc.out; omega
      clear HbadK HokK Hbne hst1 hl2 hc1 hc2
      go_wp2_with fail
      replace HO : OwnF F w ((gs, (Value.int .i64 1 :: .int .i64 c :: (sc ++ ec))) :: [(g7, cL 0 u), (g6, cP 0 (.slice none 0 0)), (g4, zV), (gx, vc)]) [rowC 40 7 u es] (fun h => LsR h o es) w5.drew := HO.drew
      clear qs0 qs1 qv5
      refine wp_region_G 11 (fun _ => True) (fun w' => Own w ((gs, (Value.int .i64 1 :: .int .i64 c :: (sc ++ ec))) :: [(g7, cL 0 u), (g6, cP 0 (.slice none 0 0)), (g4, zV), (gx, vc)]) w') (by kernel_rfl) trivial HO.own (fun _ => ?_)
      refine wpAnyG_take (i := 0) (v := .pointer (some ⟨g7, 5, none⟩)) rfl (by kernel_rfl) (fun _ _ _ h => h) (.inl ⟨by rfl, fun w hw => by go_simp⟩) (mkG HO.own) ?_
      refine fRefRowA12_126 ?_
      refine wpAnyG_take (i := 1) (v := u) rfl (by kernel_rfl) (fun _ _ _ h => h) (.inl ⟨by rfl, fun w hw => by have hc := (hw.2.at 1 rfl).cell (o := 5) (u := u) rfl; clear hw; go_simp⟩) (mkG HO.own) ?_
      refine fRefRowA12_126 ?_
      refine wpAnyG_take (i := 2) (v := .pointer (some ⟨gx, 5, none⟩)) rfl (by kernel_rfl) (fun _ _ _ h => h) (.inl ⟨by rfl, fun w hw => by go_simp⟩) (mkG HO.own) ?_
      refine fRefRowA12_126 ?_
      refine wpAnyG_take (i := 3) (v := .slice al n cl) rfl (by kernel_rfl) (fun _ _ _ h => h) (.inl ⟨by rfl, fun w hw => by have hc := (hw.2.at 4 rfl).cell HV5.out; clear hw; go_simp⟩) (mkG HO.own) ?_
      refine fRefRowA12_126 ?_
      refine wpAnyG_take (i := 4) (v := .int .i64 m) rfl (by kernel_rfl) (fun _ _ _ h => h) (.inl ⟨by rfl, fun w hw => by go_simp⟩) (mkG HO.own) ?_
      refine fRefRowA12_126 ?_
      refine wpAnyG_take (i := 5) (v := .int .i64 m) rfl (by kernel_rfl) (fun _ _ _ h => h) (.inl ⟨by rfl, fun w hw => by go_simp⟩) (mkG HO.own) ?_
      refine fRefRowA12_126 ?_
      refine wpAnyG_take (i := 6) (v := .int .i64 c) rfl (by kernel_rfl) (fun _ _ _ h => h) (.inl ⟨by rfl, fun w hw => by go_simp⟩) (mkG HO.own) ?_
      refine fRefRowA12_126 ?_
      refine wpAnyG_take (i := 7) (v := .int .i64 ((m + c : Nat) : Int)) rfl (by kernel_rfl) (fun _ _ _ h => h) (.inl ⟨by rfl, fun w hw => by go_simp⟩) (mkG HO.own) ?_
      refine fRefRowA12_126 ?_
      refine wpAnyG_take (i := 8) (v := .slice (partAt al cl m 7) c (cl - m)) rfl (by kernel_rfl) (fun _ _ _ h => h) (.inl ⟨by rfl, fun w hw => by clear hw; go_simp; rw [if_pos ⟨by omega, by omega⟩, show ((m : Int) + (c : Int)).toNat = m + c by omega, if_pos (Nat.le_add_right _ _), Nat.add_sub_cancel_left]; rfl⟩) (mkG HO.own) ?_
      refine fRefRowA12_126 ?_
      have hfk : FlatC 7 (fragE w F) (.slice (partAt al cl m 7) c (cl - m)) ((le.drop m).take c) := (HLl.out.1.drop Hmn.out.1).take (by have := Hmc.out; omega)
      have hlk : LsR (fragE w F) ((vl.drop m).take c) ((le.drop m).take c) := ((HLl.out.2.part m).2.part c).1
      have htl : ((le.drop m).take c).length = c := by rw [List.length_take, List.length_drop, Hnl.out]; have := Hmc.out; omega
      have HHr := Yq (And.intro (((hfk.mono HO.args).row).mono (fragE_le _ _)) (And.intro (show (((le.drop m).take c).flatten).length = c * 7 by rw [flatten_len hlk.sizes7, htl]) (And.intro (oneF (es := (le.drop m).take c) (fun e => one7) hlk.shapes) (And.intro hlk htl))))
      clear hfk hlk htl
      refine rdG (i := 9) (by kernel_rfl) rfl rfl (fun K hK => ?_)
      refine wp_append_ownFs (L := []) (M := []) (ad := partAt al cl m 7) (m := c) (c := cl - m) T_RL _ _ rfl HO (by go_simp) (by go_simp) (fun e => by have h1 := HLc.out.2.2 (partAt_none e); omega) (by have := Hmc.out; have := HLc.out; omega) HHr.out.1 HHr.out.2.1 HHr.out.2.2.1 (by rw [Heo.out]; have := Hol.out; have := Hmc.out; have := Hmn.out; omega) ?_
      intro u9 w9 HO9 hone9
      refine hK.out _ _ (mkG HO9.own) (fun _ => ?_)
      clear hK
      refine fRefRowA12_126 ?_
      refine wpAnyG_take (i := 10) (v := .pointer (some ⟨g7, 5, none⟩)) rfl (by kernel_rfl) (fun _ _ _ h => h) (.inl ⟨by rfl, fun w hw => by go_simp⟩) (mkG HO9.own) ?_
      refine fRefRowA12_126 ?_
      refine rdG (i := 11) (by kernel_rfl) rfl rfl (fun K hK => ?_)
      refine wp_store_ownF 1 37 _ _ rfl g7 5 u9 [u9] (by go_simp) (by go_simp) (one_cells hone9) HO9 rfl info1RL (show 5 + 1 ≤ 7 by decide) (by simpa using hone9) (ds := cL 0 u9) rfl ?_
      intro w10 HO10
      refine hK.out _ _ (InvG.past trivial (by kernel_rfl)) (fun _ => ?_)
      clear hK
      refine fRefRowA12_126 ?_
      refine wpAnyG_done (by kernel_rfl) ?_ _
      have HOn : Hid (OwnF F w [(g7, cL 0 u9), (g6, cP 0 (.slice none 0 0)), (g4, zV), (gx, vc)] [rowC 40 7 u9 (es ++ (le.drop m).take c)] (fun h => LsR h (o ++ (vl.drop m).take c) (es ++ (le.drop m).take c)) w10) := Yq (by rw [rowC_app _ _ _ _ _ c HHr.out.2.2.2.2]; exact ((HO10.read LsR.monoF (fun hr => LsR.append hr (HHr.out.2.2.2.1.mono HO10.args))).sub (List.sublist_cons_self _ _)))
      clear HO9 HO HO10 hmc3
      go_wp2_with fail
      go_roundw
      case rel => exact ⟨k + 1, m + c, u9, (o ++ (vl.drop m).take c), (es ++ (le.drop m).take c), by omega, rfl, by go_num, ⟨by rw [← List.drop_drop]; exact HI'.out, Hmc.out⟩, HOn⟩
      case measure => simp [intOf]; omega
    ·by_cases hl2 : m < n
     ·have hmv : m < vl.length := by rw [← Hvl.out]; exact hl2
      have hml : m < le.length := by rw [Hnl.out]; exact hl2
      have hdr : vl.drop m = vl[m] :: vl.drop (m + 1) := List.drop_eq_getElem_cons hmv
      obtain ⟨b1, o1, hb1, hidx1, hcell1⟩ := FlatC.at (n := n) (cap := cl) (a := al) (HLl.out.1.mono (fragE_le _ _)) (by decide) (i := m) hml Tryz.underlying37 sizeRL
      have rm := HLl.out.2.at hmv hml
      have g1 : decide ((n : Int) - (m : Int) < 1) = false := decide_eq_false (by omega)
      have hadd : IntKind.i64.wrap ((m : Int) + 1) = ((m + 1 : Nat) : Int) := by rw [IntWalk.i64_in _ (by have := Hmn.out; omega)]; omega
      have HVm : Hid (VR (fragE w F) vl[m] le[m]) := rm
      have HDm := Yq (HDr.out.2.2 vl[m] (List.getElem_mem hmv))
      have Hm1n : Hid (m + 1 ≤ n) := Yq (by omega)
      rw [hdr] at HbadK HokK
      clear rm hdr
      generalize vl[m] = ym at *
      generalize le[m] = mc at *
      have HLm := Yq HVm.out.len
      clear hmv hml hl2
      clear hp HDm
      go_wp2_with fail
      replace HO : OwnF F w ((gs, (Value.int .i64 2 :: .int .i64 ct :: (sc ++ ec))) :: [(g7, cL 0 u), (g6, cP 0 (.slice none 0 0)), (g4, zV), (gx, vc)]) [rowC 40 7 u es] (fun h => LsR h o es) w5.drew := HO.drew
      clear qs0 qs1 qv5
      refine wp_region_G 7 (fun _ => True) (fun w' => Own w ((gs, (Value.int .i64 2 :: .int .i64 ct :: (sc ++ ec))) :: [(g7, cL 0 u), (g6, cP 0 (.slice none 0 0)), (g4, zV), (gx, vc)]) w') (by kernel_rfl) trivial HO.own (fun _ => ?_)
      refine wpAnyG_take (i := 0) (v := .pointer (some ⟨gx, 5, none⟩)) rfl (by kernel_rfl) (fun _ _ _ h => h) (.inl ⟨by rfl, fun w hw => by go_simp⟩) (mkG HO.own) ?_
      refine fRefRowA9_126 ?_
      refine wpAnyG_take (i := 1) (v := .slice al n cl) rfl (by kernel_rfl) (fun _ _ _ h => h) (.inl ⟨by rfl, fun w hw => by have hc := (hw.2.at 4 rfl).cell HV5.out; clear hw; go_simp⟩) (mkG HO.own) ?_
      refine fRefRowA9_126 ?_
      refine wpAnyG_take (i := 2) (v := .int .i64 m) rfl (by kernel_rfl) (fun _ _ _ h => h) (.inl ⟨by rfl, fun w hw => by go_simp⟩) (mkG HO.own) ?_
      refine fRefRowA9_126 ?_
      refine wpAnyG_take (i := 3) (v := .pointer (some ⟨b1, o1, none⟩)) rfl (by kernel_rfl) (fun _ _ _ h => h) (.inl ⟨by rfl, fun w hw => by have hc := hidx1 w; clear hw; go_simp⟩) (mkG HO.own) ?_
      refine fRefRowA9_126 ?_
      refine wpAnyG_take (i := 4) (v := .agg mc.toArray) rfl (by kernel_rfl) (fun _ _ _ h => h) (yieldsIf_load_mid (by rfl) 40 _ rfl b1 o1 (by go_simp) mc _ (fun w h => range_below hcell1 h.2.below hb1) Tryz.underlying40 rfl (iC infoRV HLm)) (mkG HO.own) ?_
      refine fRefRowA9_126 ?_
      refine wpAnyG_take (i := 5) (v := .pointer (some ⟨gs, 2, none⟩)) rfl (by kernel_rfl) (fun _ _ _ h => h) (.inl ⟨by rfl, fun w hw => by go_simp⟩) (mkG HO.own) ?_
      refine fRefRowA9_126 ?_
      refine wpAnyG_take (i := 6) (v := .agg sc.toArray) rfl (by kernel_rfl) (fun _ _ _ h => h) (yieldsIf_load_mid (by rfl) 40 _ rfl gs 2 (by go_simp) sc _ (fun w h => (h.2.at 0 rfl).range (p := [.int .i64 2, .int .i64 ct]) (q := sc) (r := ec) rfl rfl) Tryz.underlying40 rfl (iC infoRV HLs)) (mkG HO.own) ?_
      refine fRefRowA9_126 ?_
      refine rdG (i := 7) (by kernel_rfl) rfl rfl (fun K hK => ?_)
      go_simp
      refine (rsame_any ym v1 mc sc _ ((HVm.out.mono HO.args).mono (fragE_le _ _)) ((HVs.out.mono HO.args).mono (fragE_le _ _))).mono ?_
      rintro e w7 ⟨rfl, hbq⟩
      replace HO := HO.call hbq
      clear hbq
      refine hK.out _ _ (mkG HO.own) (fun _ => ?_)
      clear hK
      refine fRefRowA9_126 ?_
      generalize hcc : decide (cmp ym v1 = 0) = cc at *
      refine wpAnyG_take0 (i := 8) (v := .bool (!cc)) rfl (by kernel_rfl) (fun _ _ _ h => h) (.inl ⟨by rfl, fun w hw => by go_simp⟩) (mkG HO.own) ?_
      refine fRefRowA9_126 ?_
      refine wpAnyG_done (by kernel_rfl) ?_ _
      have hst2 : Val.stepR 2 ct v1 x1 (ym :: vl.drop (m + 1)) o = if cmp ym v1 = 0 then .ok (vl.drop (m + 1), o) else .bad 13 := rfl
      cases cc with
      | true =>
       have HI' := Yq (HokK.out _ _ (hst2.trans (if_pos (of_decide_eq_true hcc))))
       have HOn : Hid (OwnF F w [(g7, cL 0 u), (g6, cP 0 (.slice none 0 0)), (g4, zV), (gx, vc)] [rowC 40 7 u es] (fun h => LsR h o es) w7) := Yq (HO.sub (List.sublist_cons_self _ _))
       clear HbadK HokK Hbne hst2 hcc HO hidx1 hcell1
       go_wp2_with fail
       go_roundw
       case rel => exact ⟨k + 1, m + 1, u, o, es, by omega, rfl, by go_num, ⟨HI'.out, Hm1n.out⟩, HOn⟩
       case measure => simp [intOf]; omega
      | false =>
       have HK : Hid (R0 = .bad 13) := HbadK.out 13 (hst2.trans (if_neg (of_decide_eq_false hcc)))
       clear HbadK HokK Hbne hst2 hcc hidx1 hcell1
       have hnn := (HO.at 2 rfl).whole
       go_wp2_with (first
        | ((with_reducible refine atOp (.load 40 _) ?_); refine wpList_load_seg rfl 40 _ rfl _ _ rfl _ _ hnn Tryz.underlying40 rfl infoRV ?_)
        | ((with_reducible refine atOp (.store 40 _ _) ?_); refine wpList_store_ownF 3 rfl 40 _ _ rfl _ 0 (cP 0 (.slice none 0 0)) rfl rfl HO rfl infoRV (Nat.le_refl _) (one_cP rfl) rfl ?_; clear HO; intro w6 HO)
        | fail)
       rw [HK.out]
       refine bodyPost_ret (v := .tuple #[.agg zV.toArray, .int .i64 13]) ?_ rfl (RetN.of HO.below ⟨rfl, rfl⟩)
       exact results2_blk rfl _ _ g4 zV _ rfl rfl (HO.at 3 rfl) _ Tryz.underlying40 rfl infoRV
     ·have hdr : vl.drop m = [] := List.drop_of_length_le (by rw [← Hvl.out]; omega)
      have HK : Hid (R0 = .bad 13) := HbadK.out 13 (by rw [hdr]; rfl)
      have g1 : decide ((n : Int) - (m : Int) < 1) = true := decide_eq_true (by have := Hmn.out; omega)
      clear HbadK HokK Hbne hdr hl2 hp
      have hnn := (HO.at 2 rfl).whole
      go_wp2_with (first
       | ((with_reducible refine atOp (.load 40 _) ?_); refine wpList_load_seg rfl 40 _ rfl _ _ rfl _ _ hnn Tryz.underlying40 rfl infoRV ?_)
       | ((with_reducible refine atOp (.store 40 _ _) ?_); refine wpList_store_ownF 3 rfl 40 _ _ rfl _ 0 (cP 0 (.slice none 0 0)) rfl rfl HO rfl infoRV (Nat.le_refl _) (one_cP rfl) rfl ?_; clear HO; intro w6 HO)
       | fail)
      rw [HK.out]
      refine bodyPost_ret (v := .tuple #[.agg zV.toArray, .int .i64 13]) ?_ rfl (RetN.of HO.below ⟨rfl, rfl⟩)
      exact results2_blk rfl _ _ g4 zV _ rfl rfl (HO.at 3 rfl) _ Tryz.underlying40 rfl infoRV
    ·have HI' := Yq (HokK.out _ _ (show Val.stepR 3 ct v1 x1 (vl.drop m) o = .ok (vl.drop m, o ++ [v1]) from rfl))
     have g1 : decide ((n : Int) - (m : Int) < 0) = false := decide_eq_false (by have := Hmn.out; omega)
     have hadd : IntKind.i64.wrap ((m : Int) + 0) = (m : Int) := by rw [IntWalk.i64_in _ (by have := Hmn.out; omega)]; omega
     have hadd2 : IntKind.i64.wrap (m : Int) = (m : Int) := IntWalk.i64_in _ (by have := Hmn.out; omega)
     have hn5 : (es.length + 1) * 120 ≤ 140737488355328 := by rw [Heo.out]; have := Hol.out; omega
     have qg5 := (HO.at 1 rfl).cell (o := 5) (u := u) rfl
     have hss : w5.rangeAt gs 2 sc := (HO.at 0 rfl).range (p := [.int .i64 3, .int .i64 ct]) (q := sc) (r := ec) rfl rfl
     clear HbadK HokK Hbne hp
     go_wp2_with (first
      | ((with_reducible refine atOp (.load 40 _) ?_); refine wpList_load_seg rfl 40 _ rfl _ _ rfl _ _ hss Tryz.underlying40 rfl (iC infoRV HLs) ?_)
      | ((with_reducible refine atOp (.buildSlice 37 _ _) ?_); refine wpList_buildSlice1 rfl 37 40 _ rfl sc (.agg sc.toArray) rfl Tryz.underlying37 (by rw [HLs.out]; exact info2RL) (by rw [HLs.out]; decide) (by rw [HLs.out]; decide) rfl ?_)
      | (at_builtin; refine wpList_append_ownF (L := []) (M := []) T_RL rfl _ _ rfl sc HO rfl rfl HLs.out HOs.out hn5 ?_; clear HO hss qg5 qs0 qs1 qv5; intro u9 w9 HO hone9)
      | ((with_reducible refine atOp (.store 37 _ _) ?_); refine wpList_store_ownF1 (ds := cL 0 u9) 1 rfl 37 _ _ rfl _ 5 u9 rfl rfl HO rfl info1RL ?_ hone9 rfl ?_; (· show 5 + 1 ≤ 7; decide); (clear HO; intro w10 HO9))
      | fail)
     have HOn : Hid (OwnF F w [(g7, cL 0 u9), (g6, cP 0 (.slice none 0 0)), (g4, zV), (gx, vc)] [rowC 40 7 u9 (es ++ [sc])] (fun h => LsR h (o ++ [v1]) (es ++ [sc])) w10) := Yq (by rw [rowC_snoc]; exact ((HO9.read LsR.monoF (fun hr => LsR.snoc hr (HVs.out.mono HO9.args))).sub (List.sublist_cons_self _ _)))
     clear HO9
     go_roundw
     case rel => exact ⟨k + 1, m, u9, (o ++ [v1]), (es ++ [sc]), by omega, rfl, by go_num, ⟨HI'.out, Hmn.out.1⟩, HOn⟩
     case measure => simp [intOf]; omega
    ·have Hp4 := Yq hp
     by_cases hl2 : m < n
     ·have hmv : m < vl.length := by rw [← Hvl.out]; exact hl2
      have hml : m < le.length := by rw [Hnl.out]; exact hl2
      have hdr : vl.drop m = vl[m] :: vl.drop (m + 1) := List.drop_eq_getElem_cons hmv
      obtain ⟨b1, o1, hb1, hidx1, hcell1⟩ := FlatC.at (n := n) (cap := cl) (a := al) (HLl.out.1.mono (fragE_le _ _)) (by decide) (i := m) hml Tryz.underlying37 sizeRL
      have rm := HLl.out.2.at hmv hml
      have g1 : decide ((n : Int) - (m : Int) < 1) = false := decide_eq_false (by omega)
      have hadd : IntKind.i64.wrap ((m : Int) + 1) = ((m + 1 : Nat) : Int) := by rw [IntWalk.i64_in _ (by have := Hmn.out; omega)]; omega
      have HVm : Hid (VR (fragE w F) vl[m] le[m]) := rm
      have HDm := Yq (HDr.out.2.2 vl[m] (List.getElem_mem hmv))
      have Hm1n : Hid (m + 1 ≤ n) := Yq (by omega)
      rw [hdr] at HbadK HokK
      clear rm hdr
      generalize vl[m] = ym at *
      generalize le[m] = mc at *
      have HLm := Yq HVm.out.len
      clear hmv hml hl2
      have hst4 : Val.stepR 4 ct v1 x1 (ym :: vl.drop (m + 1)) o = (match ado x1 ym with
        | .bad b => .bad b
        | .ok y => if 1 ≤ y.kind ∧ y.kind ≤ 3 then .ok (vl.drop (m + 1), o ++ [y]) else .bad 12) := rfl
      rw [hst4] at HbadK HokK
      clear hst4 hp
      go_wp2_with fail
      clear qs0 qs1 qv5
      go_simp
      go_cut [12, 13] from 28 to 113 (fun v10 v11 wx => DoCut F w ((gs, (Value.int .i64 4 :: .int .i64 ct :: (sc ++ ec))) :: [(g7, cL 0 u), (g6, cP 0 (.slice none 0 0)), (g4, zV), (gx, vc)]) [rowC 40 7 u es] (fun h => LsR h o es) (ado x1 ym) v10 v11 wx)
      case first =>
       replace HO : OwnF F w ((gs, (Value.int .i64 4 :: .int .i64 ct :: (sc ++ ec))) :: [(g7, cL 0 u), (g6, cP 0 (.slice none 0 0)), (g4, zV), (gx, vc)]) [rowC 40 7 u es] (fun h => LsR h o es) w5.drew := HO.drew
       refine wp_region_G 12 (fun _ => True) (fun w' => Own w ((gs, (Value.int .i64 4 :: .int .i64 ct :: (sc ++ ec))) :: [(g7, cL 0 u), (g6, cP 0 (.slice none 0 0)), (g4, zV), (gx, vc)]) w') (by kernel_rfl) trivial HO.own (fun _ => ?_)
       refine wpAnyG_take (i := 0) (v := .pointer (some ⟨gs, 9, none⟩)) rfl (by kernel_rfl) (fun _ _ _ h => h) (.inl ⟨by rfl, fun w hw => by go_simp⟩) (mkG HO.own) ?_
       refine fRefRowA14_126 ?_
       refine wpAnyG_take (i := 1) (v := .agg ec.toArray) rfl (by kernel_rfl) (fun _ _ _ h => h) (yieldsIf_load_mid (by rfl) 52 _ rfl gs 9 (by go_simp) ec _ (fun w h => (h.2.at 0 rfl).range (p := .int .i64 4 :: .int .i64 ct :: sc) (q := ec) (r := []) (by simp) (by simp [HLs.out])) Tryz.underlying52 rfl (iC oREi HLx)) (mkG HO.own) ?_
       refine fRefRowA14_126 ?_
       refine wpAnyG_take (i := 2) (v := .pointer (some ⟨gx, 5, none⟩)) rfl (by kernel_rfl) (fun _ _ _ h => h) (.inl ⟨by rfl, fun w hw => by go_simp⟩) (mkG HO.own) ?_
       refine fRefRowA14_126 ?_
       refine wpAnyG_take (i := 3) (v := .slice al n cl) rfl (by kernel_rfl) (fun _ _ _ h => h) (.inl ⟨by rfl, fun w hw => by have hc := (hw.2.at 4 rfl).cell HV5.out; clear hw; go_simp⟩) (mkG HO.own) ?_
       refine fRefRowA14_126 ?_
       refine wpAnyG_take (i := 4) (v := .int .i64 m) rfl (by kernel_rfl) (fun _ _ _ h => h) (.inl ⟨by rfl, fun w hw => by go_simp⟩) (mkG HO.own) ?_
       refine fRefRowA14_126 ?_
       refine wpAnyG_take (i := 5) (v := .pointer (some ⟨b1, o1, none⟩)) rfl (by kernel_rfl) (fun _ _ _ h => h) (.inl ⟨by rfl, fun w hw => by have hc := hidx1 w; clear hw; go_simp⟩) (mkG HO.own) ?_
       refine fRefRowA14_126 ?_
       refine wpAnyG_take (i := 6) (v := .agg mc.toArray) rfl (by kernel_rfl) (fun _ _ _ h => h) (yieldsIf_load_mid (by rfl) 40 _ rfl b1 o1 (by go_simp) mc _ (fun w h => range_below hcell1 h.2.below hb1) Tryz.underlying40 rfl (iC infoRV HLm)) (mkG HO.own) ?_
       refine fRefRowA14_126 ?_
       refine wpAnyG_ready (rs := [7, 11]) (by kernel_rfl) (by simp) ?_
       refine AllReadyG.plain rfl rfl (fun K hK => ?_) (AllReadyG.plain rfl rfl (fun K hK => ?_) AllReadyG.nil)
       ·go_simp
        refine (ih (exF F _ _) x1 ym ec mc _ (HO.lt HFw.out) HDr.out.1 Hp4.out HDm.out.1 HDr.out.2.1 HDm.out.2 (HX.out.mono HO.args) (HVm.out.mono HO.args)).mono ?_
        rintro e w7 hR
        obtain ⟨cs, n, rfl, hcl, hc1, hbq, hrv⟩ := RetN.form hR
        replace HO := (HO.call hbq).read (MonoF.and HO.mono (RVn.monoF (r := (ado x1 ym)) (cs := cs) (n := n))) (fun hr => ⟨hr, hrv⟩)
        have Hcl := Yq hcl; have Hc1 := Yq hc1; clear hR hrv hcl hc1 hbq
        refine hK.out _ _ (mkG HO.own) (fun _ => ?_)
        clear hK
        refine fRefRowA14_126 ?_
        refine wpAnyG_take (i := 8) (v := .tuple #[.agg cs.toArray, .int .i64 n]) rfl (by kernel_rfl) (fun _ _ _ h => h) (.inl ⟨by rfl, fun w hw => by go_simp⟩) (mkG HO.own) ?_
        refine fRefRowA14_126 ?_
        refine wpAnyG_take (i := 9) (v := .agg cs.toArray) rfl (by kernel_rfl) (fun _ _ _ h => h) (.inl ⟨by rfl, fun w hw => by go_simp⟩) (mkG HO.own) ?_
        refine fRefRowA14_126 ?_
        refine wpAnyG_take0 (i := 10) (v := .int .i64 n) rfl (by kernel_rfl) (fun _ _ _ h => h) (.inl ⟨by rfl, fun w hw => by go_simp⟩) (mkG HO.own) ?_
        refine fRefRowA14_126 ?_
        refine rdG (i := 11) (by kernel_rfl) rfl rfl (fun K hK => ?_)
        refine wp_alloc_ownF 40 rfl zV zeroRV HO ?_
        clear HO; intro w8 g10 HO _ _
        refine hK.out _ _ (mkG (HO.own.tl)) (fun _ => ?_)
        clear hK
        refine fRefRowA14_126 ?_
        refine rdG (i := 12) (by kernel_rfl) rfl rfl (fun K hK => ?_)
        refine wp_store_ownF 0 40 _ _ rfl g10 0 (.agg cs.toArray) cs (by go_simp) (by go_simp) rfl HO rfl (iC infoRV Hcl) (by rw [Hcl.out]; exact Nat.le_refl _) Hc1.out (patch_whole' _ _ (by rw [Hcl.out]; rfl)) ?_
        intro w9 HO9
        refine hK.out _ _ (InvG.past trivial (by kernel_rfl)) (fun _ => ?_)
        clear hK
        refine fRefRowA14_126 ?_
        refine wpAnyG_take0 (i := 13) (v := .int .i64 n) rfl (by kernel_rfl) (fun _ _ _ h => h) (.inl ⟨by rfl, fun w hw => by go_simp⟩) (InvG.past trivial (by kernel_rfl)) ?_
        refine fRefRowA14_126 ?_
        refine wpAnyG_done (by kernel_rfl) ?_ _
        have HCt := Yq (show DoCut F w ((gs, (Value.int .i64 4 :: .int .i64 ct :: (sc ++ ec))) :: [(g7, cL 0 u), (g6, cP 0 (.slice none 0 0)), (g4, zV), (gx, vc)]) [rowC 40 7 u es] (fun h => LsR h o es) (ado x1 ym) (.pointer (some ⟨g10, 0, none⟩)) (.int .i64 n) w9 from ⟨g10, cs, n, rfl, rfl, HO9.read (MonoF.and LsR.monoF RVn.monoF) (fun hr => ⟨hr.1, hr.2⟩), Hcl.out, Hc1.out⟩)
        clear HO9 HO
        go_wp2_with fail
        go_meet
        exact HCt.out
       ·refine wp_alloc_ownF 40 rfl zV zeroRV HO ?_
        clear HO; intro w8 g10 HO _ _
        refine hK.out _ _ (mkG (HO.own.tl)) (fun _ => ?_)
        clear hK
        refine fRefRowA14_126 ?_
        refine rdG (i := 7) (by kernel_rfl) rfl rfl (fun K hK => ?_)
        go_simp
        refine (ih (exF F _ _) x1 ym ec mc _ (HO.lt HFw.out) HDr.out.1 Hp4.out HDm.out.1 HDr.out.2.1 HDm.out.2 (HX.out.mono HO.args) (HVm.out.mono HO.args)).mono ?_
        rintro e w7 hR
        obtain ⟨cs, n, rfl, hcl, hc1, hbq, hrv⟩ := RetN.form hR
        replace HO := (HO.call hbq).read (MonoF.and HO.mono (RVn.monoF (r := (ado x1 ym)) (cs := cs) (n := n))) (fun hr => ⟨hr, hrv⟩)
        have Hcl := Yq hcl; have Hc1 := Yq hc1; clear hR hrv hcl hc1 hbq
        refine hK.out _ _ (mkG (HO.own.tl)) (fun _ => ?_)
        clear hK
        refine fRefRowA14_126 ?_
        refine wpAnyG_take (i := 8) (v := .tuple #[.agg cs.toArray, .int .i64 n]) rfl (by kernel_rfl) (fun _ _ _ h => h) (.inl ⟨by rfl, fun w hw => by go_simp⟩) (mkG (HO.own.tl)) ?_
        refine fRefRowA14_126 ?_
        refine wpAnyG_take (i := 9) (v := .agg cs.toArray) rfl (by kernel_rfl) (fun _ _ _ h => h) (.inl ⟨by rfl, fun w hw => by go_simp⟩) (mkG (HO.own.tl)) ?_
        refine fRefRowA14_126 ?_
        refine wpAnyG_take0 (i := 10) (v := .int .i64 n) rfl (by kernel_rfl) (fun _ _ _ h => h) (.inl ⟨by rfl, fun w hw => by go_simp⟩) (mkG (HO.own.tl)) ?_
        refine fRefRowA14_126 ?_
        refine rdG (i := 12) (by kernel_rfl) rfl rfl (fun K hK => ?_)
        refine wp_store_ownF 0 40 _ _ rfl g10 0 (.agg cs.toArray) cs (by go_simp) (by go_simp) rfl HO rfl (iC infoRV Hcl) (by rw [Hcl.out]; exact Nat.le_refl _) Hc1.out (patch_whole' _ _ (by rw [Hcl.out]; rfl)) ?_
        intro w9 HO9
        refine hK.out _ _ (InvG.past trivial (by kernel_rfl)) (fun _ => ?_)
        clear hK
        refine fRefRowA14_126 ?_
        refine wpAnyG_take0 (i := 13) (v := .int .i64 n) rfl (by kernel_rfl) (fun _ _ _ h => h) (.inl ⟨by rfl, fun w hw => by go_simp⟩) (InvG.past trivial (by kernel_rfl)) ?_
        refine fRefRowA14_126 ?_
        refine wpAnyG_done (by kernel_rfl) ?_ _
        have HCt := Yq (show DoCut F w ((gs, (Value.int .i64 4 :: .int .i64 ct :: (sc ++ ec))) :: [(g7, cL 0 u), (g6, cP 0 (.slice none 0 0)), (g4, zV), (gx, vc)]) [rowC 40 7 u es] (fun h => LsR h o es) (ado x1 ym) (.pointer (some ⟨g10, 0, none⟩)) (.int .i64 n) w9 from ⟨g10, cs, n, rfl, rfl, HO9.read (MonoF.and LsR.monoF RVn.monoF) (fun hr => ⟨hr.1, hr.2⟩), Hcl.out, Hc1.out⟩)
        clear HO9 HO
        go_wp2_with fail
        go_meet
        exact HCt.out
      case rest =>
       obtain ⟨g12, cs, nn, rfl, rfl, HOc, hcl, hc1⟩ := hcut
       have Hcl := Yq hcl; have Hc1 := Yq hc1
       clear HO hcl hc1 hidx1 hcell1
       have HO := HOc
       clear HOc
       have Hbn := Yq (Hbne.out ym)
       generalize hR : ado x1 ym = rr at *
       cases rr with
       | bad b =>
        have HK : Hid (R0 = .bad b) := HbadK.out b rfl
        obtain ⟨rfl, rfl⟩ := HO.rd.2
        have hb := Hbn.out b rfl
        have hq : ((b : Int) == 0) = false := by rw [beq_eq_false_iff_ne]; omega
        have hq2 : ¬ (b : Int) = 0 := by omega
        clear hb HbadK HokK Hbne Hbn
        have hnn := (HO.at 3 rfl).whole
        go_wp2_with (first
         | ((with_reducible refine atOp (.load 40 _) ?_); refine wpList_load_seg rfl 40 _ rfl _ _ rfl _ _ hnn Tryz.underlying40 rfl infoRV ?_)
         | ((with_reducible refine atOp (.store 40 _ _) ?_); refine wpList_store_ownF 4 rfl 40 _ _ rfl _ 0 (cP 0 (.slice none 0 0)) rfl rfl HO rfl infoRV (Nat.le_refl _) (one_cP rfl) rfl ?_; clear HO; intro w6 HO)
         | fail)
        rw [HK.out]
        refine bodyPost_ret (v := .tuple #[.agg zV.toArray, .int .i64 (b : Int)]) ?_ rfl (RetN.of HO.below ⟨rfl, rfl⟩)
        exact results2_blk rfl _ _ g4 zV _ rfl rfl (HO.at 4 rfl) _ Tryz.underlying40 rfl infoRV
       | ok z =>
        obtain ⟨rfl, hz⟩ := HO.rd.2
        have HP := Yq (rpart23_any z cs wc (hz.mono (fragE_le _ _)))
        have hxx := (HO.at 0 rfl).whole
        by_cases hk1 : 1 ≤ z.kind ∧ z.kind ≤ 3
        ·rw [decide_eq_true hk1] at HP
         have HI' := Yq (HokK.out (vl.drop (m + 1)) (o ++ [z]) (if_pos hk1))
         clear HbadK HokK Hbne Hbn hk1 hz
         have hn5 : (es.length + 1) * 120 ≤ 140737488355328 := by rw [Heo.out]; have := Hol.out; omega
         go_upto_region 30 with (first
          | ((with_reducible refine atOp (.load 40 _) ?_); refine wpList_load_seg rfl 40 _ rfl _ _ rfl _ _ hxx Tryz.underlying40 rfl (iC infoRV Hcl) ?_)
          | (go_at_call 50; (with_reducible refine HP.out.mono ?_); rintro e w6 ⟨rfl, hbq⟩; have HOq := HO.call hbq; clear HO hbq hxx; have HO := HOq; clear HOq)
          | fail)
         have qg5 := (HO.at 2 rfl).cell (o := 5) (u := u) rfl
         have hxx := (HO.at 0 rfl).whole
         go_wp2_with (first
          | ((with_reducible refine atOp (.load 40 _) ?_); refine wpList_load_seg rfl 40 _ rfl _ _ rfl _ _ hxx Tryz.underlying40 rfl (iC infoRV Hcl) ?_)
          | ((with_reducible refine atOp (.buildSlice 37 _ _) ?_); refine wpList_buildSlice1 rfl 37 40 _ rfl cs (.agg cs.toArray) rfl Tryz.underlying37 (by rw [Hcl.out]; exact info2RL) (by rw [Hcl.out]; decide) (by rw [Hcl.out]; decide) rfl ?_)
          | (at_builtin; refine wpList_append_ownF (L := []) (M := []) T_RL rfl _ _ rfl cs HO rfl rfl Hcl.out Hc1.out hn5 ?_; clear HO hxx qg5; intro u9 w9 HO hone9)
          | ((with_reducible refine atOp (.store 37 _ _) ?_); refine wpList_store_ownF1 (ds := cL 0 u9) 2 rfl 37 _ _ rfl _ 5 u9 rfl rfl HO rfl info1RL ?_ hone9 rfl ?_; (· show 5 + 1 ≤ 7; decide); (clear HO; intro w10 HO9))
          | fail)
         have HOn : Hid (OwnF F w [(g7, cL 0 u9), (g6, cP 0 (.slice none 0 0)), (g4, zV), (gx, vc)] [rowC 40 7 u9 (es ++ [cs])] (fun h => LsR h (o ++ [z]) (es ++ [cs])) w10) := Yq (by rw [rowC_snoc]; exact ((HO9.read LsR.monoF (fun hr => LsR.snoc hr.1 hr.2.2)).sub (.cons _ (.cons _ (List.Sublist.refl _)))))
         clear HO9
         go_roundw
         case rel => exact ⟨k + 1, m + 1, u9, (o ++ [z]), (es ++ [cs]), by omega, rfl, by go_num, ⟨HI'.out, Hm1n.out⟩, HOn⟩
         case measure => simp [intOf]; omega
        ·rw [decide_eq_false hk1] at HP
         have HK : Hid (R0 = .bad 12) := HbadK.out 12 (if_neg hk1)
         clear HbadK HokK Hbne Hbn hk1 hz
         go_upto_region 29 with (first
          | ((with_reducible refine atOp (.load 40 _) ?_); refine wpList_load_seg rfl 40 _ rfl _ _ rfl _ _ hxx Tryz.underlying40 rfl (iC infoRV Hcl) ?_)
          | (go_at_call 50; (with_reducible refine HP.out.mono ?_); rintro e w6 ⟨rfl, hbq⟩; have HOq := HO.call hbq; clear HO hbq hxx; have HO := HOq; clear HOq)
          | fail)
         have hnn := (HO.at 3 rfl).whole
         go_wp2_with (first
          | ((with_reducible refine atOp (.load 40 _) ?_); refine wpList_load_seg rfl 40 _ rfl _ _ rfl _ _ hnn Tryz.underlying40 rfl infoRV ?_)
          | ((with_reducible refine atOp (.store 40 _ _) ?_); refine wpList_store_ownF 4 rfl 40 _ _ rfl _ 0 (cP 0 (.slice none 0 0)) rfl rfl HO rfl infoRV (Nat.le_refl _) (one_cP rfl) rfl ?_; clear HO; intro w7 HO)
          | fail)
         rw [HK.out]
         refine bodyPost_ret (v := .tuple #[.agg zV.toArray, .int .i64 12]) ?_ rfl (RetN.of HO.below ⟨rfl, rfl⟩)
         exact results2_blk rfl _ _ g4 zV _ rfl rfl (HO.at 4 rfl) _ Tryz.underlying40 rfl infoRV
     ·have hdr : vl.drop m = [] := List.drop_of_length_le (by rw [← Hvl.out]; omega)
      have HK : Hid (R0 = .bad 13) := HbadK.out 13 (by rw [hdr]; rfl)
      have g1 : decide ((n : Int) - (m : Int) < 1) = true := decide_eq_true (by have := Hmn.out; omega)
      clear HbadK HokK Hbne hdr hl2 hp
      have hnn := (HO.at 2 rfl).whole
      go_wp2_with (first
       | ((with_reducible refine atOp (.load 40 _) ?_); refine wpList_load_seg rfl 40 _ rfl _ _ rfl _ _ hnn Tryz.underlying40 rfl infoRV ?_)
       | ((with_reducible refine atOp (.store 40 _ _) ?_); refine wpList_store_ownF 3 rfl 40 _ _ rfl _ 0 (cP 0 (.slice none 0 0)) rfl rfl HO rfl infoRV (Nat.le_refl _) (one_cP rfl) rfl ?_; clear HO; intro w6 HO)
       | fail)
      rw [HK.out]
      refine bodyPost_ret (v := .tuple #[.agg zV.toArray, .int .i64 13]) ?_ rfl (RetN.of HO.below ⟨rfl, rfl⟩)
      exact results2_blk rfl _ _ g4 zV _ rfl rfl (HO.at 3 rfl) _ Tryz.underlying40 rfl infoRV
   ·obtain rfl : k = ns := by omega
    have hfin : adoS s vl [] = .ok (vl.drop m, o) := by have h := RowInv.fin (s := s) (v := v) (l := vl.drop m) (o := o) (by rw [← Hm1.out, Hn.out]; exact HI.out.1); rw [← Hvle.out] at h; exact h
    have qv5 := (HO.at 3 rfl).cell HV5.out
    by_cases hl2 : m < n
    ·have HK : Hid (R0 = .bad 13) := Yq (by rw [HR0.out]; exact Val.rowT_left hfin (by rw [List.length_drop, ← Hvl.out]; omega))
     have g1 : decide ((m : Int) < (n : Int)) = true := decide_eq_true (by omega)
     have g2 : decide (m < n) = true := decide_eq_true hl2
     clear hfin hl2 HI
     have hnn := (HO.at 1 rfl).whole
     go_wp2_with (first
      | ((with_reducible refine atOp (.load 40 _) ?_); refine wpList_load_seg rfl 40 _ rfl _ _ rfl _ _ hnn Tryz.underlying40 rfl infoRV ?_)
      | ((with_reducible refine atOp (.store 40 _ _) ?_); refine wpList_store_ownF 2 rfl 40 _ _ rfl _ 0 (cP 0 (.slice none 0 0)) rfl rfl HO rfl infoRV (Nat.le_refl _) (one_cP rfl) rfl ?_; clear HO; intro w7 HO)
      | fail)
     rw [HK.out]
     refine bodyPost_ret (v := .tuple #[.agg zV.toArray, .int .i64 13]) ?_ rfl (RetN.of HO.below ⟨rfl, rfl⟩)
     exact results2_blk rfl _ _ g4 zV _ rfl rfl (HO.at 2 rfl) _ Tryz.underlying40 rfl infoRV
    ·have HK : Hid (R0 = .ok (mkL o)) := Yq (by rw [HR0.out]; exact Val.rowT_ok (by rw [hfin, List.drop_of_length_le (by rw [← Hvl.out]; omega)]))
     have g1 : decide ((m : Int) < (n : Int)) = false := decide_eq_false (by omega)
     have g2 : decide (m < n) = false := decide_eq_false hl2
     have hfu := HO.flat HFw.out (e := 40) (s := 7) (v := u) (es := es) (List.mem_cons_self ..) HO.rd.sizes7
     obtain ⟨ua, uc, rfl, _⟩ := hfu.len
     have qg5 := (HO.at 0 rfl).cell (o := 5) (u := .slice ua es.length uc) rfl
     clear hfin hl2 HI
     by_cases h0 : 0 < o.length
     ·have g3 : decide ((0 : Int) < (es.length : Int)) = true := decide_eq_true (by rw [Heo.out]; omega)
      have g4' : decide (0 < es.length) = true := decide_eq_true (by rw [Heo.out]; omega)
      have Hfu := Yq (And.intro hfu (And.intro HO.rd h0))
      clear hfu h0
      go_wp2_with (first
       | ((with_reducible refine atOp (.store 3 _ _) ?_); refine wpList_store_ownF1 (ds := cL 4 (.slice ua es.length uc)) 0 rfl 3 _ _ rfl _ 0 (.int .i64 4) rfl rfl HO rfl oinfI ?_ rfl rfl ?_; (· show 0 + 1 ≤ 7; decide); (clear HO qg5 qv5; intro w7 HO; have hyy := (HO.at 0 rfl).whole))
       | ((with_reducible refine atOp (.load 40 _) ?_); refine wpList_load_seg rfl 40 _ rfl _ _ rfl _ _ hyy Tryz.underlying40 rfl infoRV ?_)
       | ((with_reducible refine atOp (.store 40 _ _) ?_); refine wpList_store_ownF 2 rfl 40 _ _ rfl _ 0 (cL 4 (.slice ua es.length uc)) rfl rfl HO rfl infoRV (Nat.le_refl _) (one_cL rfl) rfl ?_; clear HO; intro w8 HO)
       | fail)
      rw [HK.out]
      refine bodyPost_ret (v := .tuple #[.agg (cL 4 (.slice ua es.length uc)).toArray, .int .i64 0]) ?_ rfl (RetN.of HO.below ⟨rfl, VR.mkL4 (HO.flat HFw.out (e := 40) (s := 7) (es := es) (List.mem_cons_self ..) HO.rd.sizes7) HO.done Hfu.out.2.2⟩)
      exact results2_blk rfl _ _ g4 _ _ rfl rfl (HO.at 2 rfl) _ Tryz.underlying40 rfl infoRV
     ·have ho0 : o = [] := List.length_eq_zero_iff.1 (by omega)
      subst ho0
      have he0 : es = [] := List.length_eq_zero_iff.1 Heo.out
      subst he0
      clear hfu h0
      have hyy := (HO.at 0 rfl).whole
      go_wp2_with (first
       | ((with_reducible refine atOp (.load 40 _) ?_); refine wpList_load_seg rfl 40 _ rfl _ _ rfl _ _ hyy Tryz.underlying40 rfl infoRV ?_)
       | ((with_reducible refine atOp (.store 40 _ _) ?_); refine wpList_store_ownF 2 rfl 40 _ _ rfl _ 0 (cL 0 (.slice ua 0 uc)) rfl rfl HO rfl infoRV (Nat.le_refl _) (one_cL rfl) rfl ?_; clear HO; intro w8 HO)
       | fail)
      rw [HK.out]
      refine bodyPost_ret (v := .tuple #[.agg (cL 0 (.slice ua 0 uc)).toArray, .int .i64 0]) ?_ rfl (RetN.of HO.below ⟨rfl, VR.mkL0 (HO.flat HFw.out (e := 40) (s := 7) (es := []) (List.mem_cons_self ..) (fun _ h => by cases h))⟩)
      exact results2_blk rfl _ _ g4 _ _ rfl rfl (HO.at 2 rfl) _ Tryz.underlying40 rfl infoRV
end Go.Proofs.YtebekgdjknenlaaGreatDoor
