/- The reference's files compared: two readings of one and the same file are the same. -/
import Derived.Test.YtpcfdngnmigkfaaGreatDoorSxNeq
import Derived.Test.YtpcfdngnmigkfaaGreatDoorRyMsg0
set_option linter.unusedVariables false
set_option linter.unusedSimpArgs false
namespace Go.Proofs.YtpcfdngnmigkfaaGreatDoor
open Go.RowKit
theorem fRyEqA9_26 {P : Program} {M : Region.Mode} {O : Array Oper} {Q : Exit → Act → World → Prop} {Y Z : World → Prop} {f F : Nat} {a b c e g i j k l : Bool} {m n o p q r s t u v x y z a0 a1 a2 a3 a4 a5 a6 a7 a8 a9 aA aB aC : Value} {d} {w : World} (h : wpAnyG P M O Q Y Z f F #[a,b,c,e,g,i,j,k,l] ⟨#[m,n,o,p,q,r,s,t,u,v,x,y,z,a0,a1,a2,a3,a4,a5,a6,a7,a8,a9,aA,aB,aC],d⟩ w) : wpAnyG P M O Q Y Z f F #[a,b,c,e,g,i,j,k,l] ⟨#[m,n,o,p,q,r,s,t,u,v,x,y,z,a0,a1,a2,a3,a4,a5,a6,a7,a8,a9,aA,aB,aC],d⟩ w := h
theorem fRyEqA11_52 {P : Program} {M : Region.Mode} {O : Array Oper} {Q : Exit → Act → World → Prop} {Y Z : World → Prop} {f F : Nat} {a b c e g i j k l m n : Bool} {o p q r s t u v x y z a0 a1 a2 a3 a4 a5 a6 a7 a8 a9 aA aB aC aD aE aF aG aH aI aJ aK aL aM aN aO aP aQ aR aS aT aU aV aW aX aY aZ b0 b1 b2 b3 b4 : Value} {d} {w : World} (h : wpAnyG P M O Q Y Z f F #[a,b,c,e,g,i,j,k,l,m,n] ⟨#[o,p,q,r,s,t,u,v,x,y,z,a0,a1,a2,a3,a4,a5,a6,a7,a8,a9,aA,aB,aC,aD,aE,aF,aG,aH,aI,aJ,aK,aL,aM,aN,aO,aP,aQ,aR,aS,aT,aU,aV,aW,aX,aY,aZ,b0,b1,b2,b3,b4],d⟩ w) : wpAnyG P M O Q Y Z f F #[a,b,c,e,g,i,j,k,l,m,n] ⟨#[o,p,q,r,s,t,u,v,x,y,z,a0,a1,a2,a3,a4,a5,a6,a7,a8,a9,aA,aB,aC,aD,aE,aF,aG,aH,aI,aJ,aK,aL,aM,aN,aO,aP,aQ,aR,aS,aT,aU,aV,aW,aX,aY,aZ,b0,b1,b2,b3,b4],d⟩ w := h
theorem fRyEqA11_154 {P : Program} {M : Region.Mode} {O : Array Oper} {Q : Exit → Act → World → Prop} {Y Z : World → Prop} {f F : Nat} {a b c e g i j k l m n : Bool} {o p q r s t u v x y z a0 a1 a2 a3 a4 a5 a6 a7 a8 a9 aA aB aC aD aE aF aG aH aI aJ aK aL aM aN aO aP aQ aR aS aT aU aV aW aX aY aZ b0 b1 b2 b3 b4 b5 b6 b7 b8 b9 bA bB bC bD bE bF bG bH bI bJ bK bL bM bN bO bP bQ bR bS bT bU bV bW bX bY bZ c0 c1 c2 c3 c4 c5 c6 c7 c8 c9 cA cB cC cD cE cF cG cH cI cJ cK cL cM cN cO cP cQ cR cS cT cU cV cW cX cY cZ e0 e1 e2 e3 e4 e5 e6 e7 e8 e9 eA eB eC eD eE eF eG eH eI eJ eK eL eM eN eO eP eQ eR eS eT eU eV eW eX eY : Value} {d} {w : World} (h : wpAnyG P M O Q Y Z f F #[a,b,c,e,g,i,j,k,l,m,n] ⟨#[o,p,q,r,s,t,u,v,x,y,z,a0,a1,a2,a3,a4,a5,a6,a7,a8,a9,aA,aB,aC,aD,aE,aF,aG,aH,aI,aJ,aK,aL,aM,aN,aO,aP,aQ,aR,aS,aT,aU,aV,aW,aX,aY,aZ,b0,b1,b2,b3,b4,b5,b6,b7,b8,b9,bA,bB,bC,bD,bE,bF,bG,bH,bI,bJ,bK,bL,bM,bN,bO,bP,bQ,bR,bS,bT,bU,bV,bW,bX,bY,bZ,c0,c1,c2,c3,c4,c5,c6,c7,c8,c9,cA,cB,cC,cD,cE,cF,cG,cH,cI,cJ,cK,cL,cM,cN,cO,cP,cQ,cR,cS,cT,cU,cV,cW,cX,cY,cZ,e0,e1,e2,e3,e4,e5,e6,e7,e8,e9,eA,eB,eC,eD,eE,eF,eG,eH,eI,eJ,eK,eL,eM,eN,eO,eP,eQ,eR,eS,eT,eU,eV,eW,eX,eY],d⟩ w) : wpAnyG P M O Q Y Z f F #[a,b,c,e,g,i,j,k,l,m,n] ⟨#[o,p,q,r,s,t,u,v,x,y,z,a0,a1,a2,a3,a4,a5,a6,a7,a8,a9,aA,aB,aC,aD,aE,aF,aG,aH,aI,aJ,aK,aL,aM,aN,aO,aP,aQ,aR,aS,aT,aU,aV,aW,aX,aY,aZ,b0,b1,b2,b3,b4,b5,b6,b7,b8,b9,bA,bB,bC,bD,bE,bF,bG,bH,bI,bJ,bK,bL,bM,bN,bO,bP,bQ,bR,bS,bT,bU,bV,bW,bX,bY,bZ,c0,c1,c2,c3,c4,c5,c6,c7,c8,c9,cA,cB,cC,cD,cE,cF,cG,cH,cI,cJ,cK,cL,cM,cN,cO,cP,cQ,cR,cS,cT,cU,cV,cW,cX,cY,cZ,e0,e1,e2,e3,e4,e5,e6,e7,e8,e9,eA,eB,eC,eD,eE,eF,eG,eH,eI,eJ,eK,eL,eM,eN,eO,eP,eQ,eR,eS,eT,eU,eV,eW,eX,eY],d⟩ w := h
theorem fRyEqA12_68 {P : Program} {M : Region.Mode} {O : Array Oper} {Q : Exit → Act → World → Prop} {Y Z : World → Prop} {f F : Nat} {a b c e g i j k l m n o : Bool} {p q r s t u v x y z a0 a1 a2 a3 a4 a5 a6 a7 a8 a9 aA aB aC aD aE aF aG aH aI aJ aK aL aM aN aO aP aQ aR aS aT aU aV aW aX aY aZ b0 b1 b2 b3 b4 b5 b6 b7 b8 b9 bA bB bC bD bE bF bG bH bI bJ bK bL : Value} {d} {w : World} (h : wpAnyG P M O Q Y Z f F #[a,b,c,e,g,i,j,k,l,m,n,o] ⟨#[p,q,r,s,t,u,v,x,y,z,a0,a1,a2,a3,a4,a5,a6,a7,a8,a9,aA,aB,aC,aD,aE,aF,aG,aH,aI,aJ,aK,aL,aM,aN,aO,aP,aQ,aR,aS,aT,aU,aV,aW,aX,aY,aZ,b0,b1,b2,b3,b4,b5,b6,b7,b8,b9,bA,bB,bC,bD,bE,bF,bG,bH,bI,bJ,bK,bL],d⟩ w) : wpAnyG P M O Q Y Z f F #[a,b,c,e,g,i,j,k,l,m,n,o] ⟨#[p,q,r,s,t,u,v,x,y,z,a0,a1,a2,a3,a4,a5,a6,a7,a8,a9,aA,aB,aC,aD,aE,aF,aG,aH,aI,aJ,aK,aL,aM,aN,aO,aP,aQ,aR,aS,aT,aU,aV,aW,aX,aY,aZ,b0,b1,b2,b3,b4,b5,b6,b7,b8,b9,bA,bB,bC,bD,bE,bF,bG,bH,bI,bJ,bK,bL],d⟩ w := h
theorem fRyEqA12_154 {P : Program} {M : Region.Mode} {O : Array Oper} {Q : Exit → Act → World → Prop} {Y Z : World → Prop} {f F : Nat} {a b c e g i j k l m n o : Bool} {p q r s t u v x y z a0 a1 a2 a3 a4 a5 a6 a7 a8 a9 aA aB aC aD aE aF aG aH aI aJ aK aL aM aN aO aP aQ aR aS aT aU aV aW aX aY aZ b0 b1 b2 b3 b4 b5 b6 b7 b8 b9 bA bB bC bD bE bF bG bH bI bJ bK bL bM bN bO bP bQ bR bS bT bU bV bW bX bY bZ c0 c1 c2 c3 c4 c5 c6 c7 c8 c9 cA cB cC cD cE cF cG cH cI cJ cK cL cM cN cO cP cQ cR cS cT cU cV cW cX cY cZ e0 e1 e2 e3 e4 e5 e6 e7 e8 e9 eA eB eC eD eE eF eG eH eI eJ eK eL eM eN eO eP eQ eR eS eT eU eV eW eX eY eZ : Value} {d} {w : World} (h : wpAnyG P M O Q Y Z f F #[a,b,c,e,g,i,j,k,l,m,n,o] ⟨#[p,q,r,s,t,u,v,x,y,z,a0,a1,a2,a3,a4,a5,a6,a7,a8,a9,aA,aB,aC,aD,aE,aF,aG,aH,aI,aJ,aK,aL,aM,aN,aO,aP,aQ,aR,aS,aT,aU,aV,aW,aX,aY,aZ,b0,b1,b2,b3,b4,b5,b6,b7,b8,b9,bA,bB,bC,bD,bE,bF,bG,bH,bI,bJ,bK,bL,bM,bN,bO,bP,bQ,bR,bS,bT,bU,bV,bW,bX,bY,bZ,c0,c1,c2,c3,c4,c5,c6,c7,c8,c9,cA,cB,cC,cD,cE,cF,cG,cH,cI,cJ,cK,cL,cM,cN,cO,cP,cQ,cR,cS,cT,cU,cV,cW,cX,cY,cZ,e0,e1,e2,e3,e4,e5,e6,e7,e8,e9,eA,eB,eC,eD,eE,eF,eG,eH,eI,eJ,eK,eL,eM,eN,eO,eP,eQ,eR,eS,eT,eU,eV,eW,eX,eY,eZ],d⟩ w) : wpAnyG P M O Q Y Z f F #[a,b,c,e,g,i,j,k,l,m,n,o] ⟨#[p,q,r,s,t,u,v,x,y,z,a0,a1,a2,a3,a4,a5,a6,a7,a8,a9,aA,aB,aC,aD,aE,aF,aG,aH,aI,aJ,aK,aL,aM,aN,aO,aP,aQ,aR,aS,aT,aU,aV,aW,aX,aY,aZ,b0,b1,b2,b3,b4,b5,b6,b7,b8,b9,bA,bB,bC,bD,bE,bF,bG,bH,bI,bJ,bK,bL,bM,bN,bO,bP,bQ,bR,bS,bT,bU,bV,bW,bX,bY,bZ,c0,c1,c2,c3,c4,c5,c6,c7,c8,c9,cA,cB,cC,cD,cE,cF,cG,cH,cI,cJ,cK,cL,cM,cN,cO,cP,cQ,cR,cS,cT,cU,cV,cW,cX,cY,cZ,e0,e1,e2,e3,e4,e5,e6,e7,e8,e9,eA,eB,eC,eD,eE,eF,eG,eH,eI,eJ,eK,eL,eM,eN,eO,eP,eQ,eR,eS,eT,eU,eV,eW,eX,eY,eZ],d⟩ w := h
theorem wpList_box_first {P : Program} {ops : Array Oper} {rest : List Oper} {op : Oper} {a : Act} {w : World} {Q : Exit → Act → World → Prop} (ty : TypeId) (x : Operand) (ho : op.op = .box ty x) (hgd : op.guard = none) (cs : List Value) (hx : a.eval x = .agg cs.toArray)
  (h : ∀ w2 g, w.heap.size ≤ g → Blk w2 g cs → Below w.heap.size w w2 → wpList P ops Q rest (a.put op.dst (.pointer (some ⟨g, 0, none⟩))) w2) : wpList P ops Q (op :: rest) a w :=
 wpList_box_lay (by simp [Region.wanted, hgd]) ty x ho cs hx h
theorem sizeSt8 (w : World) : (Go.sizeOf (Tryz.prog.elem 42)).run Tryz.prog w = .ok 1 w := by kernel_rfl
set_option maxHeartbeats 4000000 in
set_option maxRecDepth 100000 in
theorem eqTexts_any (v1 v2 : Value) (xs : List Lx.Bs) (w : World) (h1 : FlatB sC (frag w) v1 xs) (h2 : FlatB sC (frag w) v2 xs) :
  Calls Tryz.prog 38 #[v1, v2] w fun e w' => e = .returned (.bool true) ∧ Below w.heap.size w w' := by
 obtain ⟨a1, c1, rfl, _, _, _⟩ := h1.1.len
 obtain ⟨a2, c2, rfl, _, _, _⟩ := h2.1.len
 have HF1 := Yq h1.1; have HF2 := Yq h2.1
 have hn9 : xs.length ≤ 9223372036854775807 := by have := h1.2; omega
 clear h1 h2
 obtain ⟨n, hn⟩ : ∃ z, z = xs.length := ⟨_, rfl⟩
 rw [← hn] at HF1 HF2 hn9 ⊢
 have Hn1 : Hid (xs.length = n) := Yq hn.symm
 have hz : (((n : Nat) : Int) != ((n : Nat) : Int)) = false := by simp
 clear hn
 go_enter Tryz.func38, Tryz.ntmps38
 go_wp2_with fail
 clear hz
 go_loopw [13] (fun iv wr => ∃ k : Nat, k ≤ n ∧ iv = .int .i64 k ∧ Hid (Below w.heap.size w wr)) (fun iv _ => n - (intOf iv).toNat)
 case atStart => exact ⟨0, Nat.zero_le _, rfl, Yq (Below.refl _ _)⟩
 case round =>
  obtain ⟨k, hkn, rfl, HW⟩ := hrel
  by_cases hlt : k < n
  ·have hk1 : k < xs.length := by rw [Hn1.out]; exact hlt
   obtain ⟨b0, o0, hb0, hidx0, hcell0⟩ := FlatV.at (n := n) (cap := c1) (a := a1) (HF1.out.mono (below_le HW.out)) sC_len (by decide) (i := k) hk1 Tryz.underlying42 sizeSt8
   obtain ⟨b1, o1, hb1, hidx1, hcell1⟩ := FlatV.at (n := n) (cap := c2) (a := a2) (HF2.out.mono (below_le HW.out)) sC_len (by decide) (i := k) hk1 Tryz.underlying42 sizeSt8
   have hr0 := hcell0 0 _ rfl
   have hr1 := hcell1 0 _ rfl
   rw [Nat.add_zero] at hr0 hr1
   clear hcell0 hcell1
   generalize xs[k] = x at *
   have hP : wr.drew.cell? ⟨b0, o0, none⟩ = some (.string (toB x)) ∧ wr.drew.cell? ⟨b1, o1, none⟩ = some (.string (toB x)) := ⟨hr0, hr1⟩
   clear hr0 hr1 hk1
   go_wp2_with fail
   refine wp_region_G 99 (fun w' => w'.cell? ⟨b0, o0, none⟩ = some (.string (toB x)) ∧ w'.cell? ⟨b1, o1, none⟩ = some (.string (toB x))) (fun _ => True) (by kernel_rfl) hP trivial (fun _ => ?_)
   refine wpAnyG_take0 (i := 0) (v := .slice a1 n c1) rfl (by kernel_rfl) (fun _ _ _ h => h) (.inl ⟨by rfl, fun w hw => by go_simp⟩) (InvG.mk hP trivial) ?_
   refine fRyEqA9_26 ?_
   refine wpAnyG_take0 (i := 1) (v := .int .i64 k) rfl (by kernel_rfl) (fun _ _ _ h => h) (.inl ⟨by rfl, fun w hw => by go_simp⟩) (InvG.mk hP trivial) ?_
   refine fRyEqA9_26 ?_
   refine wpAnyG_take0 (i := 2) (v := .pointer (some ⟨b0, o0, none⟩)) rfl (by kernel_rfl) (fun _ _ _ h => h) (.inl ⟨by rfl, fun w hw => by have hi := hidx0; clear hw; go_simp⟩) (InvG.mk hP trivial) ?_
   refine fRyEqA9_26 ?_
   refine wpAnyG_take0 (i := 3) (v := .string (toB x)) rfl (by kernel_rfl) (fun _ _ _ h => h) (.inl ⟨by rfl, fun w hw => by have hc := hw.1; clear hw; go_simp⟩) (InvG.mk hP trivial) ?_
   refine fRyEqA9_26 ?_
   refine wpAnyG_take0 (i := 4) (v := .slice a2 n c2) rfl (by kernel_rfl) (fun _ _ _ h => h) (.inl ⟨by rfl, fun w hw => by go_simp⟩) (InvG.mk hP trivial) ?_
   refine fRyEqA9_26 ?_
   refine wpAnyG_take0 (i := 5) (v := .int .i64 k) rfl (by kernel_rfl) (fun _ _ _ h => h) (.inl ⟨by rfl, fun w hw => by go_simp⟩) (InvG.mk hP trivial) ?_
   refine fRyEqA9_26 ?_
   refine wpAnyG_take0 (i := 6) (v := .pointer (some ⟨b1, o1, none⟩)) rfl (by kernel_rfl) (fun _ _ _ h => h) (.inl ⟨by rfl, fun w hw => by have hi := hidx1; clear hw; go_simp⟩) (InvG.mk hP trivial) ?_
   refine fRyEqA9_26 ?_
   refine wpAnyG_take0 (i := 7) (v := .string (toB x)) rfl (by kernel_rfl) (fun _ _ _ h => h) (.inl ⟨by rfl, fun w hw => by have hc := hw.2; clear hw; go_simp⟩) (InvG.mk hP trivial) ?_
   refine fRyEqA9_26 ?_
   refine wpAnyG_take0 (i := 8) (v := .bool false) rfl (by kernel_rfl) (fun _ _ _ h => h) (.inl ⟨by rfl, fun w hw => by go_simp⟩) (InvG.mk hP trivial) ?_
   refine fRyEqA9_26 ?_
   refine wpAnyG_done (by kernel_rfl) ?_ _
   have HW2 : Hid (Below w.heap.size w wr.drew) := Yq HW.out.drew
   clear hP hidx0 hidx1
   go_wp2_with fail
   go_roundw
   case rel => exact ⟨k + 1, by omega, by go_num, HW2⟩
   case measure => simp [intOf]; omega
  ·obtain rfl : n = k := by omega
   go_wp2_with fail
   go_ret
   exact ⟨rfl, HW.out⟩
set_option maxHeartbeats 16000000 in
set_option maxRecDepth 100000 in
theorem eqEnum_any (a : Sx.Enm) (ca cb : List Value) (w : World) (ha : EnmR (frag w) a ca) (hb : EnmR (frag w) a cb) :
  Calls Tryz.prog 17 #[.agg ca.toArray, .agg cb.toArray] w fun e w' => e = .returned (.bool true) ∧ Below w.heap.size w w' := by
 obtain ⟨nm, vs, li, co⟩ := a
 obtain ⟨v1, hca, p1⟩ := ha
 obtain ⟨u1, hcb, s1⟩ := hb
 dsimp only at hca hcb p1 s1
 obtain ⟨a1, c1, x1, _, _, _⟩ := p1.1.len
 obtain ⟨b1, e1, y1, _, _, _⟩ := s1.1.len
 subst x1 y1 hca hcb
 have HP1 := Yq p1.1; have HS1 := Yq s1.1
 have hbd1 := p1.2
 obtain ⟨n1, hn1⟩ : ∃ z, z = vs.length := ⟨_, rfl⟩
 rw [← hn1] at HP1 HS1 hbd1
 rw [← hn1]
 have Hn1 := Yq hn1.symm; have Hbd1 := Yq hbd1
 clear p1 s1 hbd1 hn1
 have q1 : ((toB nm).toList == (toB nm).toList) = true := by simp
 go_enter Tryz.func17, Tryz.ntmps17
 go_upto_region 1 with (first
  | ((with_reducible refine atOp (.box 67 _) ?_); refine wpList_box_first 67 _ rfl rfl [.string (toB nm), .slice a1 n1 c1, .int .i64 li, .int .i64 co] rfl ?_; (intro w1 g1 hg1 hB1 hb1))
  | ((with_reducible refine atOp (.box 67 _) ?_); refine wpList_box_first 67 _ rfl rfl [.string (toB nm), .slice b1 n1 e1, .int .i64 li, .int .i64 co] rfl ?_; (intro w2 g2 hg2 hB2 hb2; have HB : Hid (Blk w2 g1 [.string (toB nm), .slice a1 n1 c1, .int .i64 li, .int .i64 co] ∧ Blk w2 g2 [.string (toB nm), .slice b1 n1 e1, .int .i64 li, .int .i64 co]) := Yq ⟨hB1.below hb2 hB1.lt, hB2⟩; have HW : Hid (Below w.heap.size w w2) := Yq (hb1.trans (hb2.mono hb1.size)); clear hB1 hb1 hB2 hb2 hg1 hg2; have x0 := HB.out.1.cell (o := 0) rfl; have y0 := HB.out.2.cell (o := 0) rfl; have x1 := HB.out.1.cell (o := 1) rfl; have y1 := HB.out.2.cell (o := 1) rfl; have x2 := HB.out.1.cell (o := 2) rfl; have y2 := HB.out.2.cell (o := 2) rfl; have x3 := HB.out.1.cell (o := 3) rfl; have y3 := HB.out.2.cell (o := 3) rfl))
  | fail)
 go_upto_region 3 with fail
 clear x0 y0 x1 y1 x2 y2 x3 y3
 obtain ⟨zA, hca⟩ : ∃ c : List Value, c = [.string (toB nm), .slice a1 n1 c1, .int .i64 li, .int .i64 co] := ⟨_, rfl⟩
 obtain ⟨zB, hcb⟩ : ∃ c : List Value, c = [.string (toB nm), .slice b1 n1 e1, .int .i64 li, .int .i64 co] := ⟨_, rfl⟩
 have hq := HB.out
 rw [← hca, ← hcb] at hq
 replace HB := Yq hq
 have Hca := Yq hca; have Hcb := Yq hcb
 clear hq hca hcb
 have xq := HB.out.1.cell (o := 1) (u := .slice a1 n1 c1) (by rw [Hca.out]; rfl)
 have hns1 : n1 ≤ 9223372036854775807 := by have := Hbd1.out; omega
 go_wp2_with fail
 clear xq
 go_loopw [37] (fun iv wr => ∃ k : Nat, k ≤ n1 ∧ iv = .int .i64 k ∧ Hid (Blk wr g1 zA ∧ Blk wr g2 zB) ∧ Hid (Below w.heap.size w wr)) (fun iv _ => n1 - (intOf iv).toNat)
 case atStart => exact ⟨0, Nat.zero_le _, rfl, HB, HW⟩
 case round =>
  obtain ⟨k, hkn, rfl, HB, HW⟩ := hrel
  by_cases hlt : k < n1
  ·have hk1 : k < vs.length := by rw [Hn1.out]; exact hlt
   obtain ⟨d0, o0, hd0, hidx0, hcell0⟩ := FlatV.at (n := n1) (cap := c1) (a := a1) (HP1.out.mono (below_le HW.out)) vC_len (by decide) (i := k) hk1 Tryz.underlying65 sizeRV
   obtain ⟨d1, o1, hd1, hidx1, hcell1⟩ := FlatV.at (n := n1) (cap := e1) (a := b1) (HS1.out.mono (below_le HW.out)) vC_len (by decide) (i := k) hk1 Tryz.underlying65 sizeRV
   have hr0 : wr.rangeAt d0 o0 (vC vs[k]) := hcell0
   have hr1 : wr.rangeAt d1 o1 (vC vs[k]) := hcell1
   clear hcell0 hcell1
   generalize vs[k] = x at *
   have hP : (Blk wr.drew g1 zA ∧ Blk wr.drew g2 zB) ∧ (wr.drew.rangeAt d0 o0 (vC x) ∧ wr.drew.rangeAt d1 o1 (vC x)) := ⟨HB.out, hr0, hr1⟩
   clear hr0 hr1 hk1
   go_wp2_with fail
   refine wp_region_G 99 (fun w' => (Blk w' g1 zA ∧ Blk w' g2 zB) ∧ (w'.rangeAt d0 o0 (vC x) ∧ w'.rangeAt d1 o1 (vC x))) (fun _ => True) (by kernel_rfl) hP trivial (fun _ => ?_)
   refine wpAnyG_take0 (i := 0) (v := .pointer (some ⟨g1, 1, none⟩)) rfl (by kernel_rfl) (fun _ _ _ h => h) (.inl ⟨by rfl, fun w hw => by go_simp⟩) (InvG.mk hP trivial) ?_
   refine fRyEqA11_52 ?_
   refine wpAnyG_take0 (i := 1) (v := .slice a1 n1 c1) rfl (by kernel_rfl) (fun _ _ _ h => h) (.inl ⟨by rfl, fun w hw => by have hc := hw.1.1.cell (o := 1) (u := .slice a1 n1 c1) (by rw [Hca.out]; rfl); clear hw; go_simp⟩) (InvG.mk hP trivial) ?_
   refine fRyEqA11_52 ?_
   refine wpAnyG_take0 (i := 2) (v := .int .i64 k) rfl (by kernel_rfl) (fun _ _ _ h => h) (.inl ⟨by rfl, fun w hw => by go_simp⟩) (InvG.mk hP trivial) ?_
   refine fRyEqA11_52 ?_
   refine wpAnyG_take0 (i := 3) (v := .pointer (some ⟨d0, o0, none⟩)) rfl (by kernel_rfl) (fun _ _ _ h => h) (.inl ⟨by rfl, fun w hw => by have hi := hidx0; clear hw; go_simp⟩) (InvG.mk hP trivial) ?_
   refine fRyEqA11_52 ?_
   refine wpAnyG_take0 (i := 4) (v := .agg (vC x).toArray) rfl (by kernel_rfl) (fun _ _ _ h => h) (yieldsIf_load_mid (by rfl) 114 _ rfl d0 o0 (by go_simp) (vC x) _ (fun w h => h.2.1) Tryz.underlying114 rfl infoRV) (InvG.mk hP trivial) ?_
   refine fRyEqA11_52 ?_
   refine wpAnyG_take0 (i := 5) (v := .pointer (some ⟨g2, 1, none⟩)) rfl (by kernel_rfl) (fun _ _ _ h => h) (.inl ⟨by rfl, fun w hw => by go_simp⟩) (InvG.mk hP trivial) ?_
   refine fRyEqA11_52 ?_
   refine wpAnyG_take0 (i := 6) (v := .slice b1 n1 e1) rfl (by kernel_rfl) (fun _ _ _ h => h) (.inl ⟨by rfl, fun w hw => by have hc := hw.1.2.cell (o := 1) (u := .slice b1 n1 e1) (by rw [Hcb.out]; rfl); clear hw; go_simp⟩) (InvG.mk hP trivial) ?_
   refine fRyEqA11_52 ?_
   refine wpAnyG_take0 (i := 7) (v := .int .i64 k) rfl (by kernel_rfl) (fun _ _ _ h => h) (.inl ⟨by rfl, fun w hw => by go_simp⟩) (InvG.mk hP trivial) ?_
   refine fRyEqA11_52 ?_
   refine wpAnyG_take0 (i := 8) (v := .pointer (some ⟨d1, o1, none⟩)) rfl (by kernel_rfl) (fun _ _ _ h => h) (.inl ⟨by rfl, fun w hw => by have hi := hidx1; clear hw; go_simp⟩) (InvG.mk hP trivial) ?_
   refine fRyEqA11_52 ?_
   refine wpAnyG_take0 (i := 9) (v := .agg (vC x).toArray) rfl (by kernel_rfl) (fun _ _ _ h => h) (yieldsIf_load_mid (by rfl) 114 _ rfl d1 o1 (by go_simp) (vC x) _ (fun w h => h.2.2) Tryz.underlying114 rfl infoRV) (InvG.mk hP trivial) ?_
   refine fRyEqA11_52 ?_
   refine wpAnyG_take0 (i := 10) (v := .bool false) rfl (by kernel_rfl) (fun _ _ _ h => h) (.inl ⟨by rfl, fun w hw => by have hq := neqRV x x; rw [show (!decide (x = x)) = false by simp] at hq; have hG : Tryz.prog.eqGuardType Tryz.prog.depth 114 = false := (by kernel_rfl); clear hw; go_simp⟩) (InvG.mk hP trivial) ?_
   refine fRyEqA11_52 ?_
   refine wpAnyG_done (by kernel_rfl) ?_ _
   have HW2 : Hid (Below w.heap.size w wr.drew) := Yq HW.out.drew
   have HB2 : Hid (Blk wr.drew g1 zA ∧ Blk wr.drew g2 zB) := Yq HB.out
   clear hP hidx0 hidx1
   go_wp2_with fail
   go_roundw
   case rel => exact ⟨k + 1, by omega, by go_num, HB2, HW2⟩
   case measure => simp [intOf]; omega
  ·obtain rfl : n1 = k := by omega
   clear hlt hkn
   go_wp2_with fail
   go_ret
   exact ⟨rfl, HW.out⟩
def eqMsgAt (N : Nat) : Prop := ∀ (a : Sx.Msg) (ca cb : List Value) (w : World), SizeOf.sizeOf a < N → MsgR (frag w) a ca → MsgR (frag w) a cb →
 Calls Tryz.prog 16 #[.agg ca.toArray, .agg cb.toArray] w fun e w' => e = .returned (.bool true) ∧ Below w.heap.size w w'
set_option maxHeartbeats 16000000 in
set_option maxRecDepth 100000 in
theorem eqMsg_succ (N : Nat) (ih : eqMsgAt N) : eqMsgAt (N + 1) := by
 intro a ca cb w hsz ha hb
 obtain ⟨nm, fs, os, ms, es, rs, ns, li, co⟩ := a
 have Hsize : Hid (∀ k ∈ ms, SizeOf.sizeOf k < N) := Yq (fun k hk => by
  have h1 := List.sizeOf_lt_of_mem hk
  rw [Sx.Msg.mk.sizeOf_spec] at hsz
  omega)
 rw [MsgR] at ha hb
 obtain ⟨v1, v2, v3, v4, v5, v6, cs3, cs4, hca, ⟨p1, p2, p3, p4, p5, p6⟩, r3, r4⟩ := ha
 obtain ⟨u1, u2, u3, u4, u5, u6, ds3, ds4, hcb, ⟨s1, s2, s3, s4, s5, s6⟩, t3, t4⟩ := hb
 obtain ⟨a1, c1, x1, _, _, _⟩ := p1.1.len
 obtain ⟨b1, e1, y1, _, _, _⟩ := s1.1.len
 obtain ⟨a2, c2, x2, _, _, _⟩ := p2.1.len
 obtain ⟨b2, e2, y2, _, _, _⟩ := s2.1.len
 obtain ⟨a3, c3, x3, _, _, _⟩ := p3.1.len
 obtain ⟨b3, e3, y3, _, _, _⟩ := s3.1.len
 obtain ⟨a4, c4, x4, _, _, _⟩ := p4.1.len
 obtain ⟨b4, e4, y4, _, _, _⟩ := s4.1.len
 obtain ⟨a5, c5, x5, _, _, _⟩ := p5.1.len
 obtain ⟨b5, e5, y5, _, _, _⟩ := s5.1.len
 obtain ⟨a6, c6, x6, _, _, _⟩ := p6.1.len
 obtain ⟨b6, e6, y6, _, _, _⟩ := s6.1.len
 subst x1 y1 x2 y2 x3 y3 x4 y4 x5 y5 x6 y6 hca hcb
 have HT2 := Yq (fun w0 (hb : Below w.heap.size w w0) => eqTexts_any _ _ os w0 (p2.mono (below_le hb)) (s2.mono (below_le hb)))
 have HT6 := Yq (fun w0 (hb : Below w.heap.size w w0) => eqTexts_any _ _ ns w0 (p6.mono (below_le hb)) (s6.mono (below_le hb)))
 have HP1 := Yq p1.1; have HS1 := Yq s1.1
 have hbd1 := p1.2
 have HP2 := Yq p2.1; have HS2 := Yq s2.1
 have hbd2 := p2.2
 have HP3 := Yq p3.1; have HS3 := Yq s3.1
 have hbd3 := p3.2
 have HRa3 := Yq r3; have HRb3 := Yq t3
 have hll3 : ds3.length = cs3.length := t3.len.trans r3.len.symm
 rw [hll3] at HS3 ⊢
 have HP4 := Yq p4.1; have HS4 := Yq s4.1
 have hbd4 := p4.2
 have HRa4 := Yq r4; have HRb4 := Yq t4
 have hll4 : ds4.length = cs4.length := t4.len.trans r4.len.symm
 rw [hll4] at HS4 ⊢
 have HP5 := Yq p5.1; have HS5 := Yq s5.1
 have hbd5 := p5.2
 have HP6 := Yq p6.1; have HS6 := Yq s6.1
 have hbd6 := p6.2
 obtain ⟨n1, hn1⟩ : ∃ z, z = fs.length := ⟨_, rfl⟩
 rw [← hn1] at HP1 HS1 hbd1
 obtain ⟨n2, hn2⟩ : ∃ z, z = os.length := ⟨_, rfl⟩
 rw [← hn2] at HP2 HS2 hbd2
 rw [← hn2] at HT2
 obtain ⟨n3, hn3⟩ : ∃ z, z = cs3.length := ⟨_, rfl⟩
 rw [← hn3] at HP3 HS3 hbd3
 obtain ⟨n4, hn4⟩ : ∃ z, z = cs4.length := ⟨_, rfl⟩
 rw [← hn4] at HP4 HS4 hbd4
 obtain ⟨n5, hn5⟩ : ∃ z, z = rs.length := ⟨_, rfl⟩
 rw [← hn5] at HP5 HS5 hbd5
 obtain ⟨n6, hn6⟩ : ∃ z, z = ns.length := ⟨_, rfl⟩
 rw [← hn6] at HP6 HS6 hbd6
 rw [← hn6] at HT6
 rw [← hn1, ← hn2, ← hn3, ← hn4, ← hn5, ← hn6]
 have Hn1 := Yq hn1.symm; have Hbd1 := Yq hbd1
 have Hn2 := Yq hn2.symm; have Hbd2 := Yq hbd2
 have Hn3 := Yq hn3.symm; have Hbd3 := Yq hbd3; have Hl3 := Yq hll3
 have Hn4 := Yq hn4.symm; have Hbd4 := Yq hbd4; have Hl4 := Yq hll4
 have Hn5 := Yq hn5.symm; have Hbd5 := Yq hbd5
 have Hn6 := Yq hn6.symm; have Hbd6 := Yq hbd6
 clear p1 s1 hbd1 hn1 p2 s2 hbd2 hn2 p3 s3 hbd3 hn3 p4 s4 hbd4 hn4 p5 s5 hbd5 hn5 p6 s6 hbd6 hn6 r3 t3 hll3 r4 t4 hll4 hsz
 have q1 : ((toB nm).toList == (toB nm).toList) = true := by simp
 go_enter Tryz.func16, Tryz.ntmps16
 go_upto_region 3 with (first
  | ((with_reducible refine atOp (.box 63 _) ?_); refine wpList_box_first 63 _ rfl rfl [.string (toB nm), .slice a1 n1 c1, .slice a2 n2 c2, .slice a3 n3 c3, .slice a4 n4 c4, .slice a5 n5 c5, .slice a6 n6 c6, .int .i64 li, .int .i64 co] rfl ?_; (intro w1 g1 hg1 hB1 hb1))
  | ((with_reducible refine atOp (.box 63 _) ?_); refine wpList_box_first 63 _ rfl rfl [.string (toB nm), .slice b1 n1 e1, .slice b2 n2 e2, .slice b3 n3 e3, .slice b4 n4 e4, .slice b5 n5 e5, .slice b6 n6 e6, .int .i64 li, .int .i64 co] rfl ?_; (intro w2 g2 hg2 hB2 hb2; have HB : Hid (Blk w2 g1 [.string (toB nm), .slice a1 n1 c1, .slice a2 n2 c2, .slice a3 n3 c3, .slice a4 n4 c4, .slice a5 n5 c5, .slice a6 n6 c6, .int .i64 li, .int .i64 co] ∧ Blk w2 g2 [.string (toB nm), .slice b1 n1 e1, .slice b2 n2 e2, .slice b3 n3 e3, .slice b4 n4 e4, .slice b5 n5 e5, .slice b6 n6 e6, .int .i64 li, .int .i64 co]) := Yq ⟨hB1.below hb2 hB1.lt, hB2⟩; have HW : Hid (Below w.heap.size w w2) := Yq (hb1.trans (hb2.mono hb1.size)); clear hB1 hb1 hB2 hb2 hg1 hg2; have x0 := HB.out.1.cell (o := 0) rfl; have y0 := HB.out.2.cell (o := 0) rfl; have x1 := HB.out.1.cell (o := 1) rfl; have y1 := HB.out.2.cell (o := 1) rfl; have x2 := HB.out.1.cell (o := 2) rfl; have y2 := HB.out.2.cell (o := 2) rfl; have x3 := HB.out.1.cell (o := 3) rfl; have y3 := HB.out.2.cell (o := 3) rfl; have x4 := HB.out.1.cell (o := 4) rfl; have y4 := HB.out.2.cell (o := 4) rfl; have x5 := HB.out.1.cell (o := 5) rfl; have y5 := HB.out.2.cell (o := 5) rfl; have x6 := HB.out.1.cell (o := 6) rfl; have y6 := HB.out.2.cell (o := 6) rfl; have x7 := HB.out.1.cell (o := 7) rfl; have y7 := HB.out.2.cell (o := 7) rfl; have x8 := HB.out.1.cell (o := 8) rfl; have y8 := HB.out.2.cell (o := 8) rfl))
  | (go_at_call 38; (with_reducible refine (HT2.out _ HW.out).mono ?_); rintro e w3 ⟨rfl, hb3⟩; replace HW := Yq (HW.out.trans (hb3.mono HW.out.size)); replace HB := Yq (And.intro (HB.out.1.below hb3 HB.out.1.lt) (HB.out.2.below hb3 HB.out.2.lt)); clear hb3 x0 y0 x1 y1 x2 y2 x3 y3 x4 y4 x5 y5 x6 y6 x7 y7 x8 y8; have x0 := HB.out.1.cell (o := 0) rfl; have y0 := HB.out.2.cell (o := 0) rfl; have x1 := HB.out.1.cell (o := 1) rfl; have y1 := HB.out.2.cell (o := 1) rfl; have x2 := HB.out.1.cell (o := 2) rfl; have y2 := HB.out.2.cell (o := 2) rfl; have x3 := HB.out.1.cell (o := 3) rfl; have y3 := HB.out.2.cell (o := 3) rfl; have x4 := HB.out.1.cell (o := 4) rfl; have y4 := HB.out.2.cell (o := 4) rfl; have x5 := HB.out.1.cell (o := 5) rfl; have y5 := HB.out.2.cell (o := 5) rfl; have x6 := HB.out.1.cell (o := 6) rfl; have y6 := HB.out.2.cell (o := 6) rfl; have x7 := HB.out.1.cell (o := 7) rfl; have y7 := HB.out.2.cell (o := 7) rfl; have x8 := HB.out.1.cell (o := 8) rfl; have y8 := HB.out.2.cell (o := 8) rfl)
  | (go_at_call 38; (with_reducible refine (HT6.out _ HW.out).mono ?_); rintro e w3 ⟨rfl, hb3⟩; replace HW := Yq (HW.out.trans (hb3.mono HW.out.size)); replace HB := Yq (And.intro (HB.out.1.below hb3 HB.out.1.lt) (HB.out.2.below hb3 HB.out.2.lt)); clear hb3 x0 y0 x1 y1 x2 y2 x3 y3 x4 y4 x5 y5 x6 y6 x7 y7 x8 y8; have x0 := HB.out.1.cell (o := 0) rfl; have y0 := HB.out.2.cell (o := 0) rfl; have x1 := HB.out.1.cell (o := 1) rfl; have y1 := HB.out.2.cell (o := 1) rfl; have x2 := HB.out.1.cell (o := 2) rfl; have y2 := HB.out.2.cell (o := 2) rfl; have x3 := HB.out.1.cell (o := 3) rfl; have y3 := HB.out.2.cell (o := 3) rfl; have x4 := HB.out.1.cell (o := 4) rfl; have y4 := HB.out.2.cell (o := 4) rfl; have x5 := HB.out.1.cell (o := 5) rfl; have y5 := HB.out.2.cell (o := 5) rfl; have x6 := HB.out.1.cell (o := 6) rfl; have y6 := HB.out.2.cell (o := 6) rfl; have x7 := HB.out.1.cell (o := 7) rfl; have y7 := HB.out.2.cell (o := 7) rfl; have x8 := HB.out.1.cell (o := 8) rfl; have y8 := HB.out.2.cell (o := 8) rfl)
  | fail)
 clear x0 y0 x1 y1 x2 y2 x3 y3 x4 y4 x5 y5 x6 y6 x7 y7 x8 y8
 obtain ⟨zA, hca⟩ : ∃ c : List Value, c = [.string (toB nm), .slice a1 n1 c1, .slice a2 n2 c2, .slice a3 n3 c3, .slice a4 n4 c4, .slice a5 n5 c5, .slice a6 n6 c6, .int .i64 li, .int .i64 co] := ⟨_, rfl⟩
 obtain ⟨zB, hcb⟩ : ∃ c : List Value, c = [.string (toB nm), .slice b1 n1 e1, .slice b2 n2 e2, .slice b3 n3 e3, .slice b4 n4 e4, .slice b5 n5 e5, .slice b6 n6 e6, .int .i64 li, .int .i64 co] := ⟨_, rfl⟩
 have hq := HB.out
 rw [← hca, ← hcb] at hq
 replace HB := Yq hq
 have Hca := Yq hca; have Hcb := Yq hcb
 clear hq hca hcb
 have xq := HB.out.1.cell (o := 1) (u := .slice a1 n1 c1) (by rw [Hca.out]; rfl)
 have hns1 : n1 ≤ 9223372036854775807 := by have := Hbd1.out; omega
 go_wp2_with fail
 clear xq
 go_loopw [83] (fun iv wr => ∃ k : Nat, k ≤ n1 ∧ iv = .int .i64 k ∧ Hid (Blk wr g1 zA ∧ Blk wr g2 zB) ∧ Hid (Below w.heap.size w wr)) (fun iv _ => n1 - (intOf iv).toNat)
 case atStart => exact ⟨0, Nat.zero_le _, rfl, HB, HW⟩
 case round =>
  obtain ⟨k, hkn, rfl, HB, HW⟩ := hrel
  by_cases hlt : k < n1
  ·have hk1 : k < fs.length := by rw [Hn1.out]; exact hlt
   obtain ⟨d0, o0, hd0, hidx0, hcell0⟩ := FlatV.at (n := n1) (cap := c1) (a := a1) (HP1.out.mono (below_le HW.out)) fC_len (by decide) (i := k) hk1 Tryz.underlying60 sizeRF
   obtain ⟨d1, o1, hd1, hidx1, hcell1⟩ := FlatV.at (n := n1) (cap := e1) (a := b1) (HS1.out.mono (below_le HW.out)) fC_len (by decide) (i := k) hk1 Tryz.underlying60 sizeRF
   have hr0 : wr.rangeAt d0 o0 (fC fs[k]) := hcell0
   have hr1 : wr.rangeAt d1 o1 (fC fs[k]) := hcell1
   clear hcell0 hcell1
   generalize fs[k] = x at *
   have hP : (Blk wr.drew g1 zA ∧ Blk wr.drew g2 zB) ∧ (wr.drew.rangeAt d0 o0 (fC x) ∧ wr.drew.rangeAt d1 o1 (fC x)) := ⟨HB.out, hr0, hr1⟩
   clear hr0 hr1 hk1
   go_wp2_with fail
   refine wp_region_G 99 (fun w' => (Blk w' g1 zA ∧ Blk w' g2 zB) ∧ (w'.rangeAt d0 o0 (fC x) ∧ w'.rangeAt d1 o1 (fC x))) (fun _ => True) (by kernel_rfl) hP trivial (fun _ => ?_)
   refine wpAnyG_take0 (i := 0) (v := .pointer (some ⟨g1, 1, none⟩)) rfl (by kernel_rfl) (fun _ _ _ h => h) (.inl ⟨by rfl, fun w hw => by go_simp⟩) (InvG.mk hP trivial) ?_
   refine fRyEqA11_154 ?_
   refine wpAnyG_take0 (i := 1) (v := .slice a1 n1 c1) rfl (by kernel_rfl) (fun _ _ _ h => h) (.inl ⟨by rfl, fun w hw => by have hc := hw.1.1.cell (o := 1) (u := .slice a1 n1 c1) (by rw [Hca.out]; rfl); clear hw; go_simp⟩) (InvG.mk hP trivial) ?_
   refine fRyEqA11_154 ?_
   refine wpAnyG_take0 (i := 2) (v := .int .i64 k) rfl (by kernel_rfl) (fun _ _ _ h => h) (.inl ⟨by rfl, fun w hw => by go_simp⟩) (InvG.mk hP trivial) ?_
   refine fRyEqA11_154 ?_
   refine wpAnyG_take0 (i := 3) (v := .pointer (some ⟨d0, o0, none⟩)) rfl (by kernel_rfl) (fun _ _ _ h => h) (.inl ⟨by rfl, fun w hw => by have hi := hidx0; clear hw; go_simp⟩) (InvG.mk hP trivial) ?_
   refine fRyEqA11_154 ?_
   refine wpAnyG_take0 (i := 4) (v := .agg (fC x).toArray) rfl (by kernel_rfl) (fun _ _ _ h => h) (yieldsIf_load_mid (by rfl) 110 _ rfl d0 o0 (by go_simp) (fC x) _ (fun w h => h.2.1) Tryz.underlying110 rfl infoRF) (InvG.mk hP trivial) ?_
   refine fRyEqA11_154 ?_
   refine wpAnyG_take0 (i := 5) (v := .pointer (some ⟨g2, 1, none⟩)) rfl (by kernel_rfl) (fun _ _ _ h => h) (.inl ⟨by rfl, fun w hw => by go_simp⟩) (InvG.mk hP trivial) ?_
   refine fRyEqA11_154 ?_
   refine wpAnyG_take0 (i := 6) (v := .slice b1 n1 e1) rfl (by kernel_rfl) (fun _ _ _ h => h) (.inl ⟨by rfl, fun w hw => by have hc := hw.1.2.cell (o := 1) (u := .slice b1 n1 e1) (by rw [Hcb.out]; rfl); clear hw; go_simp⟩) (InvG.mk hP trivial) ?_
   refine fRyEqA11_154 ?_
   refine wpAnyG_take0 (i := 7) (v := .int .i64 k) rfl (by kernel_rfl) (fun _ _ _ h => h) (.inl ⟨by rfl, fun w hw => by go_simp⟩) (InvG.mk hP trivial) ?_
   refine fRyEqA11_154 ?_
   refine wpAnyG_take0 (i := 8) (v := .pointer (some ⟨d1, o1, none⟩)) rfl (by kernel_rfl) (fun _ _ _ h => h) (.inl ⟨by rfl, fun w hw => by have hi := hidx1; clear hw; go_simp⟩) (InvG.mk hP trivial) ?_
   refine fRyEqA11_154 ?_
   refine wpAnyG_take0 (i := 9) (v := .agg (fC x).toArray) rfl (by kernel_rfl) (fun _ _ _ h => h) (yieldsIf_load_mid (by rfl) 110 _ rfl d1 o1 (by go_simp) (fC x) _ (fun w h => h.2.2) Tryz.underlying110 rfl infoRF) (InvG.mk hP trivial) ?_
   refine fRyEqA11_154 ?_
   refine wpAnyG_take0 (i := 10) (v := .bool false) rfl (by kernel_rfl) (fun _ _ _ h => h) (.inl ⟨by rfl, fun w hw => by have hq := neqRF x x; rw [show (!decide (x = x)) = false by simp] at hq; have hG : Tryz.prog.eqGuardType Tryz.prog.depth 110 = false := (by kernel_rfl); clear hw; go_simp⟩) (InvG.mk hP trivial) ?_
   refine fRyEqA11_154 ?_
   refine wpAnyG_done (by kernel_rfl) ?_ _
   have HW2 : Hid (Below w.heap.size w wr.drew) := Yq HW.out.drew
   have HB2 : Hid (Blk wr.drew g1 zA ∧ Blk wr.drew g2 zB) := Yq HB.out
   clear hP hidx0 hidx1
   go_wp2_with fail
   go_roundw
   case rel => exact ⟨k + 1, by omega, by go_num, HB2, HW2⟩
   case measure => simp [intOf]; omega
  ·obtain rfl : n1 = k := by omega
   clear hlt hkn
   have xq := HB.out.1.cell (o := 5) (u := .slice a5 n5 c5) (by rw [Hca.out]; rfl)
   have hns5 : n5 ≤ 9223372036854775807 := by have := Hbd5.out; omega
   go_wp2_with fail
   clear xq
   go_loopw [101] (fun iv wr => ∃ k : Nat, k ≤ n5 ∧ iv = .int .i64 k ∧ Hid (Blk wr g1 zA ∧ Blk wr g2 zB) ∧ Hid (Below w.heap.size w wr)) (fun iv _ => n5 - (intOf iv).toNat)
   case atStart => exact ⟨0, Nat.zero_le _, rfl, HB, HW⟩
   case round =>
    obtain ⟨k, hkn, rfl, HB, HW⟩ := hrel
    by_cases hlt : k < n5
    ·have hk1 : k < rs.length := by rw [Hn5.out]; exact hlt
     obtain ⟨d0, o0, hd0, hidx0, hcell0⟩ := FlatV.at (n := n5) (cap := c5) (a := a5) (HP5.out.mono (below_le HW.out)) rC_len (by decide) (i := k) hk1 Tryz.underlying61 sizeRR
     obtain ⟨d1, o1, hd1, hidx1, hcell1⟩ := FlatV.at (n := n5) (cap := e5) (a := b5) (HS5.out.mono (below_le HW.out)) rC_len (by decide) (i := k) hk1 Tryz.underlying61 sizeRR
     have hr0 : wr.rangeAt d0 o0 (rC rs[k]) := hcell0
     have hr1 : wr.rangeAt d1 o1 (rC rs[k]) := hcell1
     clear hcell0 hcell1
     generalize rs[k] = x at *
     have hP : (Blk wr.drew g1 zA ∧ Blk wr.drew g2 zB) ∧ (wr.drew.rangeAt d0 o0 (rC x) ∧ wr.drew.rangeAt d1 o1 (rC x)) := ⟨HB.out, hr0, hr1⟩
     clear hr0 hr1 hk1
     go_wp2_with fail
     refine wp_region_G 99 (fun w' => (Blk w' g1 zA ∧ Blk w' g2 zB) ∧ (w'.rangeAt d0 o0 (rC x) ∧ w'.rangeAt d1 o1 (rC x))) (fun _ => True) (by kernel_rfl) hP trivial (fun _ => ?_)
     refine wpAnyG_take0 (i := 0) (v := .pointer (some ⟨g1, 5, none⟩)) rfl (by kernel_rfl) (fun _ _ _ h => h) (.inl ⟨by rfl, fun w hw => by go_simp⟩) (InvG.mk hP trivial) ?_
     refine fRyEqA11_154 ?_
     refine wpAnyG_take0 (i := 1) (v := .slice a5 n5 c5) rfl (by kernel_rfl) (fun _ _ _ h => h) (.inl ⟨by rfl, fun w hw => by have hc := hw.1.1.cell (o := 5) (u := .slice a5 n5 c5) (by rw [Hca.out]; rfl); clear hw; go_simp⟩) (InvG.mk hP trivial) ?_
     refine fRyEqA11_154 ?_
     refine wpAnyG_take0 (i := 2) (v := .int .i64 k) rfl (by kernel_rfl) (fun _ _ _ h => h) (.inl ⟨by rfl, fun w hw => by go_simp⟩) (InvG.mk hP trivial) ?_
     refine fRyEqA11_154 ?_
     refine wpAnyG_take0 (i := 3) (v := .pointer (some ⟨d0, o0, none⟩)) rfl (by kernel_rfl) (fun _ _ _ h => h) (.inl ⟨by rfl, fun w hw => by have hi := hidx0; clear hw; go_simp⟩) (InvG.mk hP trivial) ?_
     refine fRyEqA11_154 ?_
     refine wpAnyG_take0 (i := 4) (v := .agg (rC x).toArray) rfl (by kernel_rfl) (fun _ _ _ h => h) (yieldsIf_load_mid (by rfl) 112 _ rfl d0 o0 (by go_simp) (rC x) _ (fun w h => h.2.1) Tryz.underlying112 rfl infoRR) (InvG.mk hP trivial) ?_
     refine fRyEqA11_154 ?_
     refine wpAnyG_take0 (i := 5) (v := .pointer (some ⟨g2, 5, none⟩)) rfl (by kernel_rfl) (fun _ _ _ h => h) (.inl ⟨by rfl, fun w hw => by go_simp⟩) (InvG.mk hP trivial) ?_
     refine fRyEqA11_154 ?_
     refine wpAnyG_take0 (i := 6) (v := .slice b5 n5 e5) rfl (by kernel_rfl) (fun _ _ _ h => h) (.inl ⟨by rfl, fun w hw => by have hc := hw.1.2.cell (o := 5) (u := .slice b5 n5 e5) (by rw [Hcb.out]; rfl); clear hw; go_simp⟩) (InvG.mk hP trivial) ?_
     refine fRyEqA11_154 ?_
     refine wpAnyG_take0 (i := 7) (v := .int .i64 k) rfl (by kernel_rfl) (fun _ _ _ h => h) (.inl ⟨by rfl, fun w hw => by go_simp⟩) (InvG.mk hP trivial) ?_
     refine fRyEqA11_154 ?_
     refine wpAnyG_take0 (i := 8) (v := .pointer (some ⟨d1, o1, none⟩)) rfl (by kernel_rfl) (fun _ _ _ h => h) (.inl ⟨by rfl, fun w hw => by have hi := hidx1; clear hw; go_simp⟩) (InvG.mk hP trivial) ?_
     refine fRyEqA11_154 ?_
     refine wpAnyG_take0 (i := 9) (v := .agg (rC x).toArray) rfl (by kernel_rfl) (fun _ _ _ h => h) (yieldsIf_load_mid (by rfl) 112 _ rfl d1 o1 (by go_simp) (rC x) _ (fun w h => h.2.2) Tryz.underlying112 rfl infoRR) (InvG.mk hP trivial) ?_
     refine fRyEqA11_154 ?_
     refine wpAnyG_take0 (i := 10) (v := .bool false) rfl (by kernel_rfl) (fun _ _ _ h => h) (.inl ⟨by rfl, fun w hw => by have hq := neqRR x x; rw [show (!decide (x = x)) = false by simp] at hq; have hG : Tryz.prog.eqGuardType Tryz.prog.depth 112 = false := (by kernel_rfl); clear hw; go_simp⟩) (InvG.mk hP trivial) ?_
     refine fRyEqA11_154 ?_
     refine wpAnyG_done (by kernel_rfl) ?_ _
     have HW2 : Hid (Below w.heap.size w wr.drew) := Yq HW.out.drew
     have HB2 : Hid (Blk wr.drew g1 zA ∧ Blk wr.drew g2 zB) := Yq HB.out
     clear hP hidx0 hidx1
     go_wp2_with fail
     go_roundw
     case rel => exact ⟨k + 1, by omega, by go_num, HB2, HW2⟩
     case measure => simp [intOf]; omega
    ·obtain rfl : n5 = k := by omega
     clear hlt hkn
     have xq := HB.out.1.cell (o := 3) (u := .slice a3 n3 c3) (by rw [Hca.out]; rfl)
     have hns3 : n3 ≤ 9223372036854775807 := by have := Hbd3.out; omega
     go_wp2_with fail
     clear xq
     go_loopw [119] (fun iv wr => ∃ k : Nat, k ≤ n3 ∧ iv = .int .i64 k ∧ Hid (Blk wr g1 zA ∧ Blk wr g2 zB) ∧ Hid (Below w.heap.size w wr)) (fun iv _ => n3 - (intOf iv).toNat)
     case atStart => exact ⟨0, Nat.zero_le _, rfl, HB, HW⟩
     case round =>
      obtain ⟨k, hkn, rfl, HB, HW⟩ := hrel
      by_cases hlt : k < n3
      ·have hs1 : k < cs3.length := by rw [Hn3.out]; exact hlt
       have hs2 : k < ds3.length := by rw [Hl3.out]; exact hs1
       have hk1 : k < ms.length := by rw [← HRa3.out.len]; exact hs1
       obtain ⟨d0, o0, hd0, hidx0, hcell0⟩ := FlatC.at (n := n3) (cap := c3) (a := a3) (HP3.out.mono (below_le HW.out)) (by decide) (i := k) hs1 Tryz.underlying31 sizeRM
       obtain ⟨d1, o1, hd1, hidx1, hcell1⟩ := FlatC.at (n := n3) (cap := e3) (a := b3) (HS3.out.mono (below_le HW.out)) (by decide) (i := k) hs2 Tryz.underlying31 sizeRM
       have hrd1 := HRa3.out.at hk1 hs1
       have hrd2 := HRb3.out.at hk1 hs2
       have hr0 : wr.rangeAt d0 o0 cs3[k] := hcell0
       have hr1 : wr.rangeAt d1 o1 ds3[k] := hcell1
       have Hsz := Yq (Hsize.out _ (List.getElem_mem hk1))
       clear hcell0 hcell1
       generalize ms[k] = x at *
       generalize cs3[k] = xc at *
       generalize ds3[k] = yc at *
       have Hr1 := Yq hrd1; have Hr2 := Yq hrd2; have Hx := Yq hrd1.size; have Hy := Yq hrd2.size
       clear hrd1 hrd2 hs1 hs2
       have hP : (Blk wr.drew g1 zA ∧ Blk wr.drew g2 zB) ∧ (wr.drew.rangeAt d0 o0 xc ∧ wr.drew.rangeAt d1 o1 yc) := ⟨HB.out, hr0, hr1⟩
       clear hr0 hr1 hk1
       have HC := Yq (ih x xc yc wr.drew Hsz.out (Hr1.out.mono (below_le (HW.out.drew))) (Hr2.out.mono (below_le (HW.out.drew))))
       go_wp2_with fail
       refine wp_region_G 10 (fun _ => True) (fun w' => (Blk w' g1 zA ∧ Blk w' g2 zB) ∧ (w'.rangeAt d0 o0 xc ∧ w'.rangeAt d1 o1 yc)) (by kernel_rfl) trivial hP (fun _ => ?_)
       refine wpAnyG_take (i := 0) (v := .pointer (some ⟨g1, 3, none⟩)) rfl (by kernel_rfl) (fun _ _ _ h => h) (.inl ⟨by rfl, fun w hw => by go_simp⟩) (InvG.mk trivial hP) ?_
       refine fRyEqA12_154 ?_
       refine wpAnyG_take (i := 1) (v := .slice a3 n3 c3) rfl (by kernel_rfl) (fun _ _ _ h => h) (.inl ⟨by rfl, fun w hw => by have hc := hw.2.1.1.cell (o := 3) (u := .slice a3 n3 c3) (by rw [Hca.out]; rfl); clear hw; go_simp⟩) (InvG.mk trivial hP) ?_
       refine fRyEqA12_154 ?_
       refine wpAnyG_take (i := 2) (v := .int .i64 k) rfl (by kernel_rfl) (fun _ _ _ h => h) (.inl ⟨by rfl, fun w hw => by go_simp⟩) (InvG.mk trivial hP) ?_
       refine fRyEqA12_154 ?_
       refine wpAnyG_take (i := 3) (v := .pointer (some ⟨d0, o0, none⟩)) rfl (by kernel_rfl) (fun _ _ _ h => h) (.inl ⟨by rfl, fun w hw => by have hi := hidx0; clear hw; go_simp⟩) (InvG.mk trivial hP) ?_
       refine fRyEqA12_154 ?_
       refine wpAnyG_take (i := 4) (v := .agg xc.toArray) rfl (by kernel_rfl) (fun _ _ _ h => h) (yieldsIf_load_mid (by rfl) 63 _ rfl d0 o0 (by go_simp) xc _ (fun w h => h.2.2.1) Tryz.underlying63 rfl (by rw [Hx.out]; exact infoRM)) (InvG.mk trivial hP) ?_
       refine fRyEqA12_154 ?_
       refine wpAnyG_take (i := 5) (v := .pointer (some ⟨g2, 3, none⟩)) rfl (by kernel_rfl) (fun _ _ _ h => h) (.inl ⟨by rfl, fun w hw => by go_simp⟩) (InvG.mk trivial hP) ?_
       refine fRyEqA12_154 ?_
       refine wpAnyG_take (i := 6) (v := .slice b3 n3 e3) rfl (by kernel_rfl) (fun _ _ _ h => h) (.inl ⟨by rfl, fun w hw => by have hc := hw.2.1.2.cell (o := 3) (u := .slice b3 n3 e3) (by rw [Hcb.out]; rfl); clear hw; go_simp⟩) (InvG.mk trivial hP) ?_
       refine fRyEqA12_154 ?_
       refine wpAnyG_take (i := 7) (v := .int .i64 k) rfl (by kernel_rfl) (fun _ _ _ h => h) (.inl ⟨by rfl, fun w hw => by go_simp⟩) (InvG.mk trivial hP) ?_
       refine fRyEqA12_154 ?_
       refine wpAnyG_take (i := 8) (v := .pointer (some ⟨d1, o1, none⟩)) rfl (by kernel_rfl) (fun _ _ _ h => h) (.inl ⟨by rfl, fun w hw => by have hi := hidx1; clear hw; go_simp⟩) (InvG.mk trivial hP) ?_
       refine fRyEqA12_154 ?_
       refine wpAnyG_take (i := 9) (v := .agg yc.toArray) rfl (by kernel_rfl) (fun _ _ _ h => h) (yieldsIf_load_mid (by rfl) 63 _ rfl d1 o1 (by go_simp) yc _ (fun w h => h.2.2.2) Tryz.underlying63 rfl (by rw [Hy.out]; exact infoRM)) (InvG.mk trivial hP) ?_
       refine fRyEqA12_154 ?_
       refine wpAnyG_ready (rs := [10]) (by kernel_rfl) (by simp) ?_
       refine AllReadyG.plain rfl rfl (fun K hK => ?_) AllReadyG.nil
       go_simp
       refine HC.out.mono ?_
       rintro e w7 ⟨rfl, hb7⟩
       have HW2 : Hid (Below w.heap.size w w7) := Yq (HW.out.drew.trans (hb7.mono HW.out.drew.size))
       have HB2 : Hid (Blk w7 g1 zA ∧ Blk w7 g2 zB) := Yq ⟨Blk.below (w := wr.drew) HB.out.1 hb7 HB.out.1.lt, Blk.below (w := wr.drew) HB.out.2 hb7 HB.out.2.lt⟩
       refine hK.out _ _ (InvG.past trivial (by kernel_rfl)) (fun _ => ?_)
       clear hK hb7
       refine fRyEqA12_154 ?_
       refine wpAnyG_take0 (i := 11) (v := .bool false) rfl (by kernel_rfl) (fun _ _ _ h => h) (.inl ⟨by rfl, fun w hw => by go_simp⟩) (InvG.past trivial (by kernel_rfl)) ?_
       refine fRyEqA12_154 ?_
       refine wpAnyG_done (by kernel_rfl) ?_ _
       clear hP hidx0 hidx1
       go_wp2_with fail
       go_roundw
       case rel => exact ⟨k + 1, by omega, by go_num, HB2, HW2⟩
       case measure => simp [intOf]; omega
      ·obtain rfl : n3 = k := by omega
       clear hlt hkn
       have xq := HB.out.1.cell (o := 4) (u := .slice a4 n4 c4) (by rw [Hca.out]; rfl)
       have hns4 : n4 ≤ 9223372036854775807 := by have := Hbd4.out; omega
       go_wp2_with fail
       clear xq
       go_loopw [138] (fun iv wr => ∃ k : Nat, k ≤ n4 ∧ iv = .int .i64 k ∧ Hid (Blk wr g1 zA ∧ Blk wr g2 zB) ∧ Hid (Below w.heap.size w wr)) (fun iv _ => n4 - (intOf iv).toNat)
       case atStart => exact ⟨0, Nat.zero_le _, rfl, HB, HW⟩
       case round =>
        obtain ⟨k, hkn, rfl, HB, HW⟩ := hrel
        by_cases hlt : k < n4
        ·have hs1 : k < cs4.length := by rw [Hn4.out]; exact hlt
         have hs2 : k < ds4.length := by rw [Hl4.out]; exact hs1
         have hk1 : k < es.length := by rw [← HRa4.out.len]; exact hs1
         obtain ⟨d0, o0, hd0, hidx0, hcell0⟩ := FlatC.at (n := n4) (cap := c4) (a := a4) (HP4.out.mono (below_le HW.out)) (by decide) (i := k) hs1 Tryz.underlying32 sizeRE
         obtain ⟨d1, o1, hd1, hidx1, hcell1⟩ := FlatC.at (n := n4) (cap := e4) (a := b4) (HS4.out.mono (below_le HW.out)) (by decide) (i := k) hs2 Tryz.underlying32 sizeRE
         have hrd1 := HRa4.out.at hk1 hs1
         have hrd2 := HRb4.out.at hk1 hs2
         have hr0 : wr.rangeAt d0 o0 cs4[k] := hcell0
         have hr1 : wr.rangeAt d1 o1 ds4[k] := hcell1
         clear hcell0 hcell1
         generalize es[k] = x at *
         generalize cs4[k] = xc at *
         generalize ds4[k] = yc at *
         have Hr1 := Yq hrd1; have Hr2 := Yq hrd2; have Hx := Yq hrd1.size; have Hy := Yq hrd2.size
         clear hrd1 hrd2 hs1 hs2
         have hP : (Blk wr.drew g1 zA ∧ Blk wr.drew g2 zB) ∧ (wr.drew.rangeAt d0 o0 xc ∧ wr.drew.rangeAt d1 o1 yc) := ⟨HB.out, hr0, hr1⟩
         clear hr0 hr1 hk1
         have HC := Yq (eqEnum_any x xc yc wr.drew (Hr1.out.mono (below_le (HW.out.drew))) (Hr2.out.mono (below_le (HW.out.drew))))
         go_wp2_with fail
         refine wp_region_G 10 (fun _ => True) (fun w' => (Blk w' g1 zA ∧ Blk w' g2 zB) ∧ (w'.rangeAt d0 o0 xc ∧ w'.rangeAt d1 o1 yc)) (by kernel_rfl) trivial hP (fun _ => ?_)
         refine wpAnyG_take (i := 0) (v := .pointer (some ⟨g1, 4, none⟩)) rfl (by kernel_rfl) (fun _ _ _ h => h) (.inl ⟨by rfl, fun w hw => by go_simp⟩) (InvG.mk trivial hP) ?_
         refine fRyEqA12_154 ?_
         refine wpAnyG_take (i := 1) (v := .slice a4 n4 c4) rfl (by kernel_rfl) (fun _ _ _ h => h) (.inl ⟨by rfl, fun w hw => by have hc := hw.2.1.1.cell (o := 4) (u := .slice a4 n4 c4) (by rw [Hca.out]; rfl); clear hw; go_simp⟩) (InvG.mk trivial hP) ?_
         refine fRyEqA12_154 ?_
         refine wpAnyG_take (i := 2) (v := .int .i64 k) rfl (by kernel_rfl) (fun _ _ _ h => h) (.inl ⟨by rfl, fun w hw => by go_simp⟩) (InvG.mk trivial hP) ?_
         refine fRyEqA12_154 ?_
         refine wpAnyG_take (i := 3) (v := .pointer (some ⟨d0, o0, none⟩)) rfl (by kernel_rfl) (fun _ _ _ h => h) (.inl ⟨by rfl, fun w hw => by have hi := hidx0; clear hw; go_simp⟩) (InvG.mk trivial hP) ?_
         refine fRyEqA12_154 ?_
         refine wpAnyG_take (i := 4) (v := .agg xc.toArray) rfl (by kernel_rfl) (fun _ _ _ h => h) (yieldsIf_load_mid (by rfl) 67 _ rfl d0 o0 (by go_simp) xc _ (fun w h => h.2.2.1) Tryz.underlying67 rfl (by rw [Hx.out]; exact infoRE)) (InvG.mk trivial hP) ?_
         refine fRyEqA12_154 ?_
         refine wpAnyG_take (i := 5) (v := .pointer (some ⟨g2, 4, none⟩)) rfl (by kernel_rfl) (fun _ _ _ h => h) (.inl ⟨by rfl, fun w hw => by go_simp⟩) (InvG.mk trivial hP) ?_
         refine fRyEqA12_154 ?_
         refine wpAnyG_take (i := 6) (v := .slice b4 n4 e4) rfl (by kernel_rfl) (fun _ _ _ h => h) (.inl ⟨by rfl, fun w hw => by have hc := hw.2.1.2.cell (o := 4) (u := .slice b4 n4 e4) (by rw [Hcb.out]; rfl); clear hw; go_simp⟩) (InvG.mk trivial hP) ?_
         refine fRyEqA12_154 ?_
         refine wpAnyG_take (i := 7) (v := .int .i64 k) rfl (by kernel_rfl) (fun _ _ _ h => h) (.inl ⟨by rfl, fun w hw => by go_simp⟩) (InvG.mk trivial hP) ?_
         refine fRyEqA12_154 ?_
         refine wpAnyG_take (i := 8) (v := .pointer (some ⟨d1, o1, none⟩)) rfl (by kernel_rfl) (fun _ _ _ h => h) (.inl ⟨by rfl, fun w hw => by have hi := hidx1; clear hw; go_simp⟩) (InvG.mk trivial hP) ?_
         refine fRyEqA12_154 ?_
         refine wpAnyG_take (i := 9) (v := .agg yc.toArray) rfl (by kernel_rfl) (fun _ _ _ h => h) (yieldsIf_load_mid (by rfl) 67 _ rfl d1 o1 (by go_simp) yc _ (fun w h => h.2.2.2) Tryz.underlying67 rfl (by rw [Hy.out]; exact infoRE)) (InvG.mk trivial hP) ?_
         refine fRyEqA12_154 ?_
         refine wpAnyG_ready (rs := [10]) (by kernel_rfl) (by simp) ?_
         refine AllReadyG.plain rfl rfl (fun K hK => ?_) AllReadyG.nil
         go_simp
         refine HC.out.mono ?_
         rintro e w7 ⟨rfl, hb7⟩
         have HW2 : Hid (Below w.heap.size w w7) := Yq (HW.out.drew.trans (hb7.mono HW.out.drew.size))
         have HB2 : Hid (Blk w7 g1 zA ∧ Blk w7 g2 zB) := Yq ⟨Blk.below (w := wr.drew) HB.out.1 hb7 HB.out.1.lt, Blk.below (w := wr.drew) HB.out.2 hb7 HB.out.2.lt⟩
         refine hK.out _ _ (InvG.past trivial (by kernel_rfl)) (fun _ => ?_)
         clear hK hb7
         refine fRyEqA12_154 ?_
         refine wpAnyG_take0 (i := 11) (v := .bool false) rfl (by kernel_rfl) (fun _ _ _ h => h) (.inl ⟨by rfl, fun w hw => by go_simp⟩) (InvG.past trivial (by kernel_rfl)) ?_
         refine fRyEqA12_154 ?_
         refine wpAnyG_done (by kernel_rfl) ?_ _
         clear hP hidx0 hidx1
         go_wp2_with fail
         go_roundw
         case rel => exact ⟨k + 1, by omega, by go_num, HB2, HW2⟩
         case measure => simp [intOf]; omega
        ·obtain rfl : n4 = k := by omega
         clear hlt hkn
         go_wp2_with fail
         go_ret
         exact ⟨rfl, HW.out⟩
theorem eqMsg_at : ∀ N, eqMsgAt N
 | 0 => fun a ca cb w h => absurd h (Nat.not_lt_zero _)
 | N + 1 => eqMsg_succ N (eqMsg_at N)
theorem eqMsg_any (a : Sx.Msg) (ca cb : List Value) (w : World) (ha : MsgR (frag w) a ca) (hb : MsgR (frag w) a cb) :
  Calls Tryz.prog 16 #[.agg ca.toArray, .agg cb.toArray] w fun e w' => e = .returned (.bool true) ∧ Below w.heap.size w w' := eqMsg_at _ a ca cb w (Nat.lt_succ_self _) ha hb
set_option maxHeartbeats 16000000 in
set_option maxRecDepth 100000 in
theorem eqFile_any (a : Sx.Fil) (ca cb : List Value) (w : World) (ha : FilR (frag w) a ca) (hb : FilR (frag w) a cb) :
  Calls Tryz.prog 8 #[.agg ca.toArray, .agg cb.toArray] w fun e w' => e = .returned (.bool true) ∧ Below w.heap.size w w' := by
 obtain ⟨nm, ms, es⟩ := a
 obtain ⟨v1, v2, cs1, cs2, hca, ⟨p1, p2⟩, r1, r2⟩ := ha
 obtain ⟨u1, u2, ds1, ds2, hcb, ⟨s1, s2⟩, t1, t2⟩ := hb
 dsimp only at hca hcb r1 r2 t1 t2
 obtain ⟨a1, c1, x1, _, _, _⟩ := p1.1.len
 obtain ⟨b1, e1, y1, _, _, _⟩ := s1.1.len
 obtain ⟨a2, c2, x2, _, _, _⟩ := p2.1.len
 obtain ⟨b2, e2, y2, _, _, _⟩ := s2.1.len
 subst x1 y1 x2 y2 hca hcb
 have HP1 := Yq p1.1; have HS1 := Yq s1.1
 have hbd1 := p1.2
 have HRa1 := Yq r1; have HRb1 := Yq t1
 have hll1 : ds1.length = cs1.length := t1.len.trans r1.len.symm
 rw [hll1] at HS1 ⊢
 have HP2 := Yq p2.1; have HS2 := Yq s2.1
 have hbd2 := p2.2
 have HRa2 := Yq r2; have HRb2 := Yq t2
 have hll2 : ds2.length = cs2.length := t2.len.trans r2.len.symm
 rw [hll2] at HS2 ⊢
 obtain ⟨n1, hn1⟩ : ∃ z, z = cs1.length := ⟨_, rfl⟩
 rw [← hn1] at HP1 HS1 hbd1
 obtain ⟨n2, hn2⟩ : ∃ z, z = cs2.length := ⟨_, rfl⟩
 rw [← hn2] at HP2 HS2 hbd2
 rw [← hn1, ← hn2]
 have Hn1 := Yq hn1.symm; have Hbd1 := Yq hbd1; have Hl1 := Yq hll1
 have Hn2 := Yq hn2.symm; have Hbd2 := Yq hbd2; have Hl2 := Yq hll2
 clear p1 s1 hbd1 hn1 p2 s2 hbd2 hn2 r1 t1 hll1 r2 t2 hll2
 have q1 : ((toB nm).toList == (toB nm).toList) = true := by simp
 go_enter Tryz.func8, Tryz.ntmps8
 go_upto_region 1 with (first
  | ((with_reducible refine atOp (.box 34 _) ?_); refine wpList_box_first 34 _ rfl rfl [.string (toB nm), .slice a1 n1 c1, .slice a2 n2 c2] rfl ?_; (intro w1 g1 hg1 hB1 hb1))
  | ((with_reducible refine atOp (.box 34 _) ?_); refine wpList_box_first 34 _ rfl rfl [.string (toB nm), .slice b1 n1 e1, .slice b2 n2 e2] rfl ?_; (intro w2 g2 hg2 hB2 hb2; have HB : Hid (Blk w2 g1 [.string (toB nm), .slice a1 n1 c1, .slice a2 n2 c2] ∧ Blk w2 g2 [.string (toB nm), .slice b1 n1 e1, .slice b2 n2 e2]) := Yq ⟨hB1.below hb2 hB1.lt, hB2⟩; have HW : Hid (Below w.heap.size w w2) := Yq (hb1.trans (hb2.mono hb1.size)); clear hB1 hb1 hB2 hb2 hg1 hg2; have x0 := HB.out.1.cell (o := 0) rfl; have y0 := HB.out.2.cell (o := 0) rfl; have x1 := HB.out.1.cell (o := 1) rfl; have y1 := HB.out.2.cell (o := 1) rfl; have x2 := HB.out.1.cell (o := 2) rfl; have y2 := HB.out.2.cell (o := 2) rfl))
  | fail)
 go_upto_region 3 with fail
 clear x0 y0 x1 y1 x2 y2
 obtain ⟨zA, hca⟩ : ∃ c : List Value, c = [.string (toB nm), .slice a1 n1 c1, .slice a2 n2 c2] := ⟨_, rfl⟩
 obtain ⟨zB, hcb⟩ : ∃ c : List Value, c = [.string (toB nm), .slice b1 n1 e1, .slice b2 n2 e2] := ⟨_, rfl⟩
 have hq := HB.out
 rw [← hca, ← hcb] at hq
 replace HB := Yq hq
 have Hca := Yq hca; have Hcb := Yq hcb
 clear hq hca hcb
 have xq := HB.out.1.cell (o := 1) (u := .slice a1 n1 c1) (by rw [Hca.out]; rfl)
 have hns1 : n1 ≤ 9223372036854775807 := by have := Hbd1.out; omega
 go_wp2_with fail
 clear xq
 go_loopw [33] (fun iv wr => ∃ k : Nat, k ≤ n1 ∧ iv = .int .i64 k ∧ Hid (Blk wr g1 zA ∧ Blk wr g2 zB) ∧ Hid (Below w.heap.size w wr)) (fun iv _ => n1 - (intOf iv).toNat)
 case atStart => exact ⟨0, Nat.zero_le _, rfl, HB, HW⟩
 case round =>
  obtain ⟨k, hkn, rfl, HB, HW⟩ := hrel
  by_cases hlt : k < n1
  ·have hs1 : k < cs1.length := by rw [Hn1.out]; exact hlt
   have hs2 : k < ds1.length := by rw [Hl1.out]; exact hs1
   have hk1 : k < ms.length := by rw [← HRa1.out.len]; exact hs1
   obtain ⟨d0, o0, hd0, hidx0, hcell0⟩ := FlatC.at (n := n1) (cap := c1) (a := a1) (HP1.out.mono (below_le HW.out)) (by decide) (i := k) hs1 Tryz.underlying31 sizeRM
   obtain ⟨d1, o1, hd1, hidx1, hcell1⟩ := FlatC.at (n := n1) (cap := e1) (a := b1) (HS1.out.mono (below_le HW.out)) (by decide) (i := k) hs2 Tryz.underlying31 sizeRM
   have hrd1 := HRa1.out.at hk1 hs1
   have hrd2 := HRb1.out.at hk1 hs2
   have hr0 : wr.rangeAt d0 o0 cs1[k] := hcell0
   have hr1 : wr.rangeAt d1 o1 ds1[k] := hcell1
   clear hcell0 hcell1
   generalize ms[k] = x at *
   generalize cs1[k] = xc at *
   generalize ds1[k] = yc at *
   have Hr1 := Yq hrd1; have Hr2 := Yq hrd2; have Hx := Yq hrd1.size; have Hy := Yq hrd2.size
   clear hrd1 hrd2 hs1 hs2
   have hP : (Blk wr.drew g1 zA ∧ Blk wr.drew g2 zB) ∧ (wr.drew.rangeAt d0 o0 xc ∧ wr.drew.rangeAt d1 o1 yc) := ⟨HB.out, hr0, hr1⟩
   clear hr0 hr1 hk1
   have HC := Yq (eqMsg_any x xc yc wr.drew (Hr1.out.mono (below_le (HW.out.drew))) (Hr2.out.mono (below_le (HW.out.drew))))
   go_wp2_with fail
   refine wp_region_G 10 (fun _ => True) (fun w' => (Blk w' g1 zA ∧ Blk w' g2 zB) ∧ (w'.rangeAt d0 o0 xc ∧ w'.rangeAt d1 o1 yc)) (by kernel_rfl) trivial hP (fun _ => ?_)
   refine wpAnyG_take (i := 0) (v := .pointer (some ⟨g1, 1, none⟩)) rfl (by kernel_rfl) (fun _ _ _ h => h) (.inl ⟨by rfl, fun w hw => by go_simp⟩) (InvG.mk trivial hP) ?_
   refine fRyEqA12_68 ?_
   refine wpAnyG_take (i := 1) (v := .slice a1 n1 c1) rfl (by kernel_rfl) (fun _ _ _ h => h) (.inl ⟨by rfl, fun w hw => by have hc := hw.2.1.1.cell (o := 1) (u := .slice a1 n1 c1) (by rw [Hca.out]; rfl); clear hw; go_simp⟩) (InvG.mk trivial hP) ?_
   refine fRyEqA12_68 ?_
   refine wpAnyG_take (i := 2) (v := .int .i64 k) rfl (by kernel_rfl) (fun _ _ _ h => h) (.inl ⟨by rfl, fun w hw => by go_simp⟩) (InvG.mk trivial hP) ?_
   refine fRyEqA12_68 ?_
   refine wpAnyG_take (i := 3) (v := .pointer (some ⟨d0, o0, none⟩)) rfl (by kernel_rfl) (fun _ _ _ h => h) (.inl ⟨by rfl, fun w hw => by have hi := hidx0; clear hw; go_simp⟩) (InvG.mk trivial hP) ?_
   refine fRyEqA12_68 ?_
   refine wpAnyG_take (i := 4) (v := .agg xc.toArray) rfl (by kernel_rfl) (fun _ _ _ h => h) (yieldsIf_load_mid (by rfl) 63 _ rfl d0 o0 (by go_simp) xc _ (fun w h => h.2.2.1) Tryz.underlying63 rfl (by rw [Hx.out]; exact infoRM)) (InvG.mk trivial hP) ?_
   refine fRyEqA12_68 ?_
   refine wpAnyG_take (i := 5) (v := .pointer (some ⟨g2, 1, none⟩)) rfl (by kernel_rfl) (fun _ _ _ h => h) (.inl ⟨by rfl, fun w hw => by go_simp⟩) (InvG.mk trivial hP) ?_
   refine fRyEqA12_68 ?_
   refine wpAnyG_take (i := 6) (v := .slice b1 n1 e1) rfl (by kernel_rfl) (fun _ _ _ h => h) (.inl ⟨by rfl, fun w hw => by have hc := hw.2.1.2.cell (o := 1) (u := .slice b1 n1 e1) (by rw [Hcb.out]; rfl); clear hw; go_simp⟩) (InvG.mk trivial hP) ?_
   refine fRyEqA12_68 ?_
   refine wpAnyG_take (i := 7) (v := .int .i64 k) rfl (by kernel_rfl) (fun _ _ _ h => h) (.inl ⟨by rfl, fun w hw => by go_simp⟩) (InvG.mk trivial hP) ?_
   refine fRyEqA12_68 ?_
   refine wpAnyG_take (i := 8) (v := .pointer (some ⟨d1, o1, none⟩)) rfl (by kernel_rfl) (fun _ _ _ h => h) (.inl ⟨by rfl, fun w hw => by have hi := hidx1; clear hw; go_simp⟩) (InvG.mk trivial hP) ?_
   refine fRyEqA12_68 ?_
   refine wpAnyG_take (i := 9) (v := .agg yc.toArray) rfl (by kernel_rfl) (fun _ _ _ h => h) (yieldsIf_load_mid (by rfl) 63 _ rfl d1 o1 (by go_simp) yc _ (fun w h => h.2.2.2) Tryz.underlying63 rfl (by rw [Hy.out]; exact infoRM)) (InvG.mk trivial hP) ?_
   refine fRyEqA12_68 ?_
   refine wpAnyG_ready (rs := [10]) (by kernel_rfl) (by simp) ?_
   refine AllReadyG.plain rfl rfl (fun K hK => ?_) AllReadyG.nil
   go_simp
   refine HC.out.mono ?_
   rintro e w7 ⟨rfl, hb7⟩
   have HW2 : Hid (Below w.heap.size w w7) := Yq (HW.out.drew.trans (hb7.mono HW.out.drew.size))
   have HB2 : Hid (Blk w7 g1 zA ∧ Blk w7 g2 zB) := Yq ⟨Blk.below (w := wr.drew) HB.out.1 hb7 HB.out.1.lt, Blk.below (w := wr.drew) HB.out.2 hb7 HB.out.2.lt⟩
   refine hK.out _ _ (InvG.past trivial (by kernel_rfl)) (fun _ => ?_)
   clear hK hb7
   refine fRyEqA12_68 ?_
   refine wpAnyG_take0 (i := 11) (v := .bool false) rfl (by kernel_rfl) (fun _ _ _ h => h) (.inl ⟨by rfl, fun w hw => by go_simp⟩) (InvG.past trivial (by kernel_rfl)) ?_
   refine fRyEqA12_68 ?_
   refine wpAnyG_done (by kernel_rfl) ?_ _
   clear hP hidx0 hidx1
   go_wp2_with fail
   go_roundw
   case rel => exact ⟨k + 1, by omega, by go_num, HB2, HW2⟩
   case measure => simp [intOf]; omega
  ·obtain rfl : n1 = k := by omega
   clear hlt hkn
   have xq := HB.out.1.cell (o := 2) (u := .slice a2 n2 c2) (by rw [Hca.out]; rfl)
   have hns2 : n2 ≤ 9223372036854775807 := by have := Hbd2.out; omega
   go_wp2_with fail
   clear xq
   go_loopw [52] (fun iv wr => ∃ k : Nat, k ≤ n2 ∧ iv = .int .i64 k ∧ Hid (Blk wr g1 zA ∧ Blk wr g2 zB) ∧ Hid (Below w.heap.size w wr)) (fun iv _ => n2 - (intOf iv).toNat)
   case atStart => exact ⟨0, Nat.zero_le _, rfl, HB, HW⟩
   case round =>
    obtain ⟨k, hkn, rfl, HB, HW⟩ := hrel
    by_cases hlt : k < n2
    ·have hs1 : k < cs2.length := by rw [Hn2.out]; exact hlt
     have hs2 : k < ds2.length := by rw [Hl2.out]; exact hs1
     have hk1 : k < es.length := by rw [← HRa2.out.len]; exact hs1
     obtain ⟨d0, o0, hd0, hidx0, hcell0⟩ := FlatC.at (n := n2) (cap := c2) (a := a2) (HP2.out.mono (below_le HW.out)) (by decide) (i := k) hs1 Tryz.underlying32 sizeRE
     obtain ⟨d1, o1, hd1, hidx1, hcell1⟩ := FlatC.at (n := n2) (cap := e2) (a := b2) (HS2.out.mono (below_le HW.out)) (by decide) (i := k) hs2 Tryz.underlying32 sizeRE
     have hrd1 := HRa2.out.at hk1 hs1
     have hrd2 := HRb2.out.at hk1 hs2
     have hr0 : wr.rangeAt d0 o0 cs2[k] := hcell0
     have hr1 : wr.rangeAt d1 o1 ds2[k] := hcell1
     clear hcell0 hcell1
     generalize es[k] = x at *
     generalize cs2[k] = xc at *
     generalize ds2[k] = yc at *
     have Hr1 := Yq hrd1; have Hr2 := Yq hrd2; have Hx := Yq hrd1.size; have Hy := Yq hrd2.size
     clear hrd1 hrd2 hs1 hs2
     have hP : (Blk wr.drew g1 zA ∧ Blk wr.drew g2 zB) ∧ (wr.drew.rangeAt d0 o0 xc ∧ wr.drew.rangeAt d1 o1 yc) := ⟨HB.out, hr0, hr1⟩
     clear hr0 hr1 hk1
     have HC := Yq (eqEnum_any x xc yc wr.drew (Hr1.out.mono (below_le (HW.out.drew))) (Hr2.out.mono (below_le (HW.out.drew))))
     go_wp2_with fail
     refine wp_region_G 10 (fun _ => True) (fun w' => (Blk w' g1 zA ∧ Blk w' g2 zB) ∧ (w'.rangeAt d0 o0 xc ∧ w'.rangeAt d1 o1 yc)) (by kernel_rfl) trivial hP (fun _ => ?_)
     refine wpAnyG_take (i := 0) (v := .pointer (some ⟨g1, 2, none⟩)) rfl (by kernel_rfl) (fun _ _ _ h => h) (.inl ⟨by rfl, fun w hw => by go_simp⟩) (InvG.mk trivial hP) ?_
     refine fRyEqA12_68 ?_
     refine wpAnyG_take (i := 1) (v := .slice a2 n2 c2) rfl (by kernel_rfl) (fun _ _ _ h => h) (.inl ⟨by rfl, fun w hw => by have hc := hw.2.1.1.cell (o := 2) (u := .slice a2 n2 c2) (by rw [Hca.out]; rfl); clear hw; go_simp⟩) (InvG.mk trivial hP) ?_
     refine fRyEqA12_68 ?_
     refine wpAnyG_take (i := 2) (v := .int .i64 k) rfl (by kernel_rfl) (fun _ _ _ h => h) (.inl ⟨by rfl, fun w hw => by go_simp⟩) (InvG.mk trivial hP) ?_
     refine fRyEqA12_68 ?_
     refine wpAnyG_take (i := 3) (v := .pointer (some ⟨d0, o0, none⟩)) rfl (by kernel_rfl) (fun _ _ _ h => h) (.inl ⟨by rfl, fun w hw => by have hi := hidx0; clear hw; go_simp⟩) (InvG.mk trivial hP) ?_
     refine fRyEqA12_68 ?_
     refine wpAnyG_take (i := 4) (v := .agg xc.toArray) rfl (by kernel_rfl) (fun _ _ _ h => h) (yieldsIf_load_mid (by rfl) 67 _ rfl d0 o0 (by go_simp) xc _ (fun w h => h.2.2.1) Tryz.underlying67 rfl (by rw [Hx.out]; exact infoRE)) (InvG.mk trivial hP) ?_
     refine fRyEqA12_68 ?_
     refine wpAnyG_take (i := 5) (v := .pointer (some ⟨g2, 2, none⟩)) rfl (by kernel_rfl) (fun _ _ _ h => h) (.inl ⟨by rfl, fun w hw => by go_simp⟩) (InvG.mk trivial hP) ?_
     refine fRyEqA12_68 ?_
     refine wpAnyG_take (i := 6) (v := .slice b2 n2 e2) rfl (by kernel_rfl) (fun _ _ _ h => h) (.inl ⟨by rfl, fun w hw => by have hc := hw.2.1.2.cell (o := 2) (u := .slice b2 n2 e2) (by rw [Hcb.out]; rfl); clear hw; go_simp⟩) (InvG.mk trivial hP) ?_
     refine fRyEqA12_68 ?_
     refine wpAnyG_take (i := 7) (v := .int .i64 k) rfl (by kernel_rfl) (fun _ _ _ h => h) (.inl ⟨by rfl, fun w hw => by go_simp⟩) (InvG.mk trivial hP) ?_
     refine fRyEqA12_68 ?_
     refine wpAnyG_take (i := 8) (v := .pointer (some ⟨d1, o1, none⟩)) rfl (by kernel_rfl) (fun _ _ _ h => h) (.inl ⟨by rfl, fun w hw => by have hi := hidx1; clear hw; go_simp⟩) (InvG.mk trivial hP) ?_
     refine fRyEqA12_68 ?_
     refine wpAnyG_take (i := 9) (v := .agg yc.toArray) rfl (by kernel_rfl) (fun _ _ _ h => h) (yieldsIf_load_mid (by rfl) 67 _ rfl d1 o1 (by go_simp) yc _ (fun w h => h.2.2.2) Tryz.underlying67 rfl (by rw [Hy.out]; exact infoRE)) (InvG.mk trivial hP) ?_
     refine fRyEqA12_68 ?_
     refine wpAnyG_ready (rs := [10]) (by kernel_rfl) (by simp) ?_
     refine AllReadyG.plain rfl rfl (fun K hK => ?_) AllReadyG.nil
     go_simp
     refine HC.out.mono ?_
     rintro e w7 ⟨rfl, hb7⟩
     have HW2 : Hid (Below w.heap.size w w7) := Yq (HW.out.drew.trans (hb7.mono HW.out.drew.size))
     have HB2 : Hid (Blk w7 g1 zA ∧ Blk w7 g2 zB) := Yq ⟨Blk.below (w := wr.drew) HB.out.1 hb7 HB.out.1.lt, Blk.below (w := wr.drew) HB.out.2 hb7 HB.out.2.lt⟩
     refine hK.out _ _ (InvG.past trivial (by kernel_rfl)) (fun _ => ?_)
     clear hK hb7
     refine fRyEqA12_68 ?_
     refine wpAnyG_take0 (i := 11) (v := .bool false) rfl (by kernel_rfl) (fun _ _ _ h => h) (.inl ⟨by rfl, fun w hw => by go_simp⟩) (InvG.past trivial (by kernel_rfl)) ?_
     refine fRyEqA12_68 ?_
     refine wpAnyG_done (by kernel_rfl) ?_ _
     clear hP hidx0 hidx1
     go_wp2_with fail
     go_roundw
     case rel => exact ⟨k + 1, by omega, by go_num, HB2, HW2⟩
     case measure => simp [intOf]; omega
    ·obtain rfl : n2 = k := by omega
     clear hlt hkn
     go_wp2_with fail
     go_ret
     exact ⟨rfl, HW.out⟩
end Go.Proofs.YtpcfdngnmigkfaaGreatDoor
