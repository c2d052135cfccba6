/- The law's files as of the document, walked: what they hold. -/
import Derived.Test.YtpcfdngnmigkfaaGreatDoorGroupA
import Derived.Test.YtpcfdngnmigkfaaGreatDoorSxText
set_option linter.unusedVariables false
set_option linter.unusedSimpArgs false
namespace Go.Proofs.YtpcfdngnmigkfaaGreatDoor
open Go.RowKit
theorem fSxConvA8_42 {P : Program} {M : Region.Mode} {O : Array Oper} {Q : Exit → Act → World → Prop} {Y Z : World → Prop} {f F : Nat} {a b c e g i j k : Bool} {l m n o p q r s t u v x y z a0 a1 a2 a3 a4 a5 a6 a7 a8 a9 aA aB aC aD aE aF aG aH aI aJ aK aL aM aN aO aP aQ aR : Value} {d} {w : World} (h : wpAnyG P M O Q Y Z f F #[a,b,c,e,g,i,j,k] ⟨#[l,m,n,o,p,q,r,s,t,u,v,x,y,z,a0,a1,a2,a3,a4,a5,a6,a7,a8,a9,aA,aB,aC,aD,aE,aF,aG,aH,aI,aJ,aK,aL,aM,aN,aO,aP,aQ,aR],d⟩ w) : wpAnyG P M O Q Y Z f F #[a,b,c,e,g,i,j,k] ⟨#[l,m,n,o,p,q,r,s,t,u,v,x,y,z,a0,a1,a2,a3,a4,a5,a6,a7,a8,a9,aA,aB,aC,aD,aE,aF,aG,aH,aI,aJ,aK,aL,aM,aN,aO,aP,aQ,aR],d⟩ w := h
theorem fSxConvA8_82 {P : Program} {M : Region.Mode} {O : Array Oper} {Q : Exit → Act → World → Prop} {Y Z : World → Prop} {f F : Nat} {a b c e g i j k : Bool} {l m n o p q r s t u v x y z a0 a1 a2 a3 a4 a5 a6 a7 a8 a9 aA aB aC aD aE aF aG aH aI aJ aK aL aM aN aO aP aQ aR aS aT aU aV aW aX aY aZ b0 b1 b2 b3 b4 b5 b6 b7 b8 b9 bA bB bC bD bE bF bG bH bI bJ bK bL bM bN bO bP bQ bR bS bT bU bV : Value} {d} {w : World} (h : wpAnyG P M O Q Y Z f F #[a,b,c,e,g,i,j,k] ⟨#[l,m,n,o,p,q,r,s,t,u,v,x,y,z,a0,a1,a2,a3,a4,a5,a6,a7,a8,a9,aA,aB,aC,aD,aE,aF,aG,aH,aI,aJ,aK,aL,aM,aN,aO,aP,aQ,aR,aS,aT,aU,aV,aW,aX,aY,aZ,b0,b1,b2,b3,b4,b5,b6,b7,b8,b9,bA,bB,bC,bD,bE,bF,bG,bH,bI,bJ,bK,bL,bM,bN,bO,bP,bQ,bR,bS,bT,bU,bV],d⟩ w) : wpAnyG P M O Q Y Z f F #[a,b,c,e,g,i,j,k] ⟨#[l,m,n,o,p,q,r,s,t,u,v,x,y,z,a0,a1,a2,a3,a4,a5,a6,a7,a8,a9,aA,aB,aC,aD,aE,aF,aG,aH,aI,aJ,aK,aL,aM,aN,aO,aP,aQ,aR,aS,aT,aU,aV,aW,aX,aY,aZ,b0,b1,b2,b3,b4,b5,b6,b7,b8,b9,bA,bB,bC,bD,bE,bF,bG,bH,bI,bJ,bK,bL,bM,bN,bO,bP,bQ,bR,bS,bT,bU,bV],d⟩ w := h
def rowOf {α : Type} (ty : TypeId) (size : Nat) (f : α → List Value) (u : Value) (l : List α) : ORow := ⟨ty, size, u, l.length, l.flatMap f⟩
def rowCs (ty : TypeId) (size : Nat) (u : Value) (es : List (List Value)) : ORow := ⟨ty, size, u, es.length, es.flatten⟩
theorem rowOf_snoc {α : Type} (ty : TypeId) (size : Nat) (f : α → List Value) (u : Value) (l : List α) (y : α) : rowOf ty size f u (l ++ [y]) = ⟨ty, size, u, l.length + 1, l.flatMap f ++ f y⟩ := by
 unfold rowOf; simp [List.flatMap_append]
theorem rowCs_snoc (ty : TypeId) (size : Nat) (u : Value) (es : List (List Value)) (c : List Value) : rowCs ty size u (es ++ [c]) = ⟨ty, size, u, es.length + 1, es.flatten ++ c⟩ := by
 unfold rowCs; simp
theorem T_RF : SliceT Tryz.prog 60 110 (.agg zF.toArray) 10 112 := ⟨Tryz.underlying60, by kernel_rfl, rfl, by decide, by decide⟩
theorem info2RF : (Tryz.prog.info? 110).map (fun i => (i.size, i.zero.map (fun z => z.cells.size))) = some (10, some 10) := by kernel_rfl
theorem infoRF : (Tryz.prog.info? 110).map (·.size) = some 10 := by kernel_rfl
theorem info1RF : (Tryz.prog.info? 60).map (·.size) = some 1 := by kernel_rfl
theorem sizeSF (w : World) : (Go.sizeOf (Tryz.prog.elem 41)).run Tryz.prog w = .ok 10 w := by kernel_rfl
theorem sizeRF (w : World) : (Go.sizeOf (Tryz.prog.elem 60)).run Tryz.prog w = .ok 10 w := by kernel_rfl
theorem T_RV : SliceT Tryz.prog 65 114 (.agg zVl.toArray) 4 40 := ⟨Tryz.underlying65, by kernel_rfl, rfl, by decide, by decide⟩
theorem info2RV : (Tryz.prog.info? 114).map (fun i => (i.size, i.zero.map (fun z => z.cells.size))) = some (4, some 4) := by kernel_rfl
theorem infoRV : (Tryz.prog.info? 114).map (·.size) = some 4 := by kernel_rfl
theorem zeroRV : (Tryz.prog.info? 114).map (·.zero) = some (some (.agg zVl.toArray)) := by kernel_rfl
theorem info1RV : (Tryz.prog.info? 65).map (·.size) = some 1 := by kernel_rfl
theorem sizeSV (w : World) : (Go.sizeOf (Tryz.prog.elem 69)).run Tryz.prog w = .ok 4 w := by kernel_rfl
theorem sizeRV (w : World) : (Go.sizeOf (Tryz.prog.elem 65)).run Tryz.prog w = .ok 4 w := by kernel_rfl
theorem T_RR : SliceT Tryz.prog 61 112 (.agg zRg.toArray) 2 16 := ⟨Tryz.underlying61, by kernel_rfl, rfl, by decide, by decide⟩
theorem info2RR : (Tryz.prog.info? 112).map (fun i => (i.size, i.zero.map (fun z => z.cells.size))) = some (2, some 2) := by kernel_rfl
theorem infoRR : (Tryz.prog.info? 112).map (·.size) = some 2 := by kernel_rfl
theorem zeroRR : (Tryz.prog.info? 112).map (·.zero) = some (some (.agg zRg.toArray)) := by kernel_rfl
theorem info1RR : (Tryz.prog.info? 61).map (·.size) = some 1 := by kernel_rfl
theorem sizeSR (w : World) : (Go.sizeOf (Tryz.prog.elem 43)).run Tryz.prog w = .ok 2 w := by kernel_rfl
theorem sizeRR (w : World) : (Go.sizeOf (Tryz.prog.elem 61)).run Tryz.prog w = .ok 2 w := by kernel_rfl
theorem T_RM : SliceT Tryz.prog 31 63 (.agg zMs.toArray) 9 176 := ⟨Tryz.underlying31, by kernel_rfl, rfl, by decide, by decide⟩
theorem info2RM : (Tryz.prog.info? 63).map (fun i => (i.size, i.zero.map (fun z => z.cells.size))) = some (9, some 9) := by kernel_rfl
theorem infoRM : (Tryz.prog.info? 63).map (·.size) = some 9 := by kernel_rfl
theorem zeroRM : (Tryz.prog.info? 63).map (·.zero) = some (some (.agg zMs.toArray)) := by kernel_rfl
theorem info1RM : (Tryz.prog.info? 31).map (·.size) = some 1 := by kernel_rfl
theorem sizeSM (w : World) : (Go.sizeOf (Tryz.prog.elem 23)).run Tryz.prog w = .ok 9 w := by kernel_rfl
theorem sizeRM (w : World) : (Go.sizeOf (Tryz.prog.elem 31)).run Tryz.prog w = .ok 9 w := by kernel_rfl
theorem T_RE : SliceT Tryz.prog 32 67 (.agg zEn.toArray) 4 56 := ⟨Tryz.underlying32, by kernel_rfl, rfl, by decide, by decide⟩
theorem info2RE : (Tryz.prog.info? 67).map (fun i => (i.size, i.zero.map (fun z => z.cells.size))) = some (4, some 4) := by kernel_rfl
theorem infoRE : (Tryz.prog.info? 67).map (·.size) = some 4 := by kernel_rfl
theorem zeroRE : (Tryz.prog.info? 67).map (·.zero) = some (some (.agg zEn.toArray)) := by kernel_rfl
theorem info1RE : (Tryz.prog.info? 32).map (·.size) = some 1 := by kernel_rfl
theorem sizeSE (w : World) : (Go.sizeOf (Tryz.prog.elem 24)).run Tryz.prog w = .ok 4 w := by kernel_rfl
theorem sizeRE (w : World) : (Go.sizeOf (Tryz.prog.elem 32)).run Tryz.prog w = .ok 4 w := by kernel_rfl
theorem infoRFl : (Tryz.prog.info? 34).map (·.size) = some 3 := by kernel_rfl
theorem zeroRFl : (Tryz.prog.info? 34).map (·.zero) = some (some (.agg zFl.toArray)) := by kernel_rfl
theorem rEnm_build (a b : Int) (t : ByteArray) (w : World) : (Instr.build 67 #[(0, .string t), (2, .int .i64 a), (3, .int .i64 b)]).run Tryz.prog w = .ok (.agg #[.string t, .slice none 0 0, .int .i64 a, .int .i64 b]) w := by kernel_rfl
theorem rMsg_build (a b : Int) (t : ByteArray) (a2 a6 : Option Addr) (n2 c2 n6 c6 : Nat) (w : World) : (Instr.build 63 #[(0, .string t), (2, .slice a2 n2 c2), (6, .slice a6 n6 c6), (7, .int .i64 a), (8, .int .i64 b)]).run Tryz.prog w = .ok (.agg #[.string t, .slice none 0 0, .slice a2 n2 c2, .slice none 0 0, .slice none 0 0, .slice none 0 0, .slice a6 n6 c6, .int .i64 a, .int .i64 b]) w := by kernel_rfl
theorem rFil_build (t : ByteArray) (w : World) : (Instr.build 34 #[(0, .string t)]).run Tryz.prog w = .ok (.agg #[.string t, .slice none 0 0, .slice none 0 0]) w := by kernel_rfl
def TreePost {α : Type} (R : Frag → α → List Value → Prop) (h0 : Frag) (w : World) (x : α) (e : Ending) (w' : World) : Prop :=
 ∃ cs, e = .returned (.agg cs.toArray) ∧ R (fragJ h0 w' w.heap.size []) x cs ∧ Below w.heap.size w w'
theorem frag_dom {h0 : Frag} {w : World} (h : FLe h0 (frag w)) : ∀ k o, h0 k = some o → k < w.heap.size := fun k o e => heap_lt (h k o e)
def ofRD (v2 : Value) (os : List Lx.Bs) (v6 : Value) (ns : List Lx.Bs) (ms : List Sx.Msg) (mss : List (List Value)) (es : List Sx.Enm) (ess : List (List Value)) (h : Frag) : Prop :=
 (FlatB sC h v2 os ∧ FlatB sC h v6 ns) ∧ MsgsR h ms mss ∧ EnsR h es ess
theorem ofRD_mono (v2 : Value) (os : List Lx.Bs) (v6 : Value) (ns : List Lx.Bs) (ms : List Sx.Msg) (mss : List (List Value)) (es : List Sx.Enm) (ess : List (List Value)) : Mono (ofRD v2 os v6 ns ms mss es ess) :=
 fun h h' hle q => ⟨⟨q.1.1.mono hle, q.1.2.mono hle⟩, q.2.1.mono hle, q.2.2.mono hle⟩
def filRD (ms : List Sx.Msg) (mss : List (List Value)) (es : List Sx.Enm) (ess : List (List Value)) (h : Frag) : Prop := MsgsR h ms mss ∧ EnsR h es ess
theorem filRD_mono (ms : List Sx.Msg) (mss : List (List Value)) (es : List Sx.Enm) (ess : List (List Value)) : Mono (filRD ms mss es ess) :=
 fun h h' hle q => ⟨q.1.mono hle, q.2.mono hle⟩
set_option maxHeartbeats 16000000 in
set_option maxRecDepth 100000 in
theorem ofEnum_any (h0 : Frag) (x : Sx.Enm) (cs : List Value) (w : World) (hle : FLe h0 (frag w)) (hx : EnmR h0 x cs) :
  Calls Tryz.prog 19 #[.agg cs.toArray] w (TreePost EnmR h0 w x) := by
 obtain ⟨nm, vs, li, co⟩ := x
 obtain ⟨v1, hcs, q1⟩ := hx
 dsimp only at hcs q1
 obtain ⟨a1, c1, e1, _, _, _⟩ := q1.1.len
 subst e1 hcs
 have Hbd1 := Yq q1.2
 have HF1 := Yq q1.1
 obtain ⟨n1, hn1⟩ : ∃ z, z = vs.length := ⟨_, rfl⟩
 rw [← hn1] at Hbd1 HF1
 rw [← hn1]
 have Hn1 := Yq hn1.symm
 have Hle := Yq hle
 have hbd := rEnm_build
 clear hle hn1 q1
 go_enter Tryz.func19, Tryz.ntmps19
 go_upto_region 1 with (first
  | (refine wpList_box_lay rfl 71 _ rfl [.string (toB nm), .slice a1 n1 c1, .int .i64 li, .int .i64 co] rfl ?_; (intro w1 g1 hg1 hB1 hb1))
  | (refine wpList_alloc_lay rfl 67 rfl zEn zeroRE ?_; (intro w2 gr hgr hBr hb2)))
 have HB12 := Yq (hB1.below hb2 hB1.lt); have HBr2 := Yq hBr
 have Hb2 : Hid (Below w.heap.size w w2) := Yq (hb1.trans (hb2.mono hb1.size))
 have Hg12 : Hid (w.heap.size ≤ gr) := Yq (Nat.le_trans hb1.size hgr)
 clear hB1 hb1 hb2 hBr hgr hg1
 have z0 : w2.cell? ⟨g1, 0, none⟩ = some (.string (toB nm)) := HB12.out.cell (o := 0) rfl
 have z2 : w2.cell? ⟨g1, 2, none⟩ = some (.int .i64 li) := HB12.out.cell (o := 2) rfl
 have z3 : w2.cell? ⟨g1, 3, none⟩ = some (.int .i64 co) := HB12.out.cell (o := 3) rfl
 go_upto_region 2 with (first
  | (refine wpList_alloc_lay rfl 67 rfl zEn zeroRE ?_; (intro w5 gm hgm hBv hb5))
  | (refine wpList_store_all rfl 67 _ _ rfl gm [.string (toB nm), (.slice none 0 0), .int .i64 li, .int .i64 co] rfl rfl zEn hBv infoRE rfl ?_ ?_; (· intro u hu; simp only [List.mem_cons, List.not_mem_nil, or_false] at hu; rcases hu with rfl | rfl | rfl | rfl <;> rfl); (intro w6 hB6 hgr6; have hb6 := Below.grown hb5 hgr6 hb5.size (fun _ e => by cases e; exact hgm); clear hb5 hgr6 hBv)))
 have HX : Hid (Blk w6 g1 [.string (toB nm), .slice a1 n1 c1, .int .i64 li, .int .i64 co] ∧ Blk w6 gr zEn) := Yq ⟨HB12.out.below hb6 HB12.out.lt, HBr2.out.below hb6 HBr2.out.lt⟩
 have Hgs : Hid (g1 < w6.heap.size ∧ gr < w6.heap.size ∧ g1 ≠ gm ∧ gr ≠ gm ∧ w.heap.size ≤ gr) := Yq ⟨HX.out.1.lt, HX.out.2.lt, fun e => by have := HB12.out.lt; omega, fun e => by have := HBr2.out.lt; omega, Hg12.out⟩
 have hdom := frag_dom Hle.out
 have HI : Hid (Built h0 w6.heap.size gm w [.string (toB nm), (.slice none 0 0), .int .i64 li, .int .i64 co] [rowOf 114 4 vC (.slice none 0 0) []] (fun _ => True) w6) := Yq ⟨hB6, Rows.nil _ _ _ (fun r hr => by simp only [List.mem_cons, List.not_mem_nil, or_false] at hr; rcases hr with rfl <;> exact ⟨rfl, rfl, rfl⟩), trivial, Hle.out.trans ((below_le Hb2.out).trans (below_le hb6)), Hb2.out.trans (hb6.mono Hb2.out.size), ⟨Nat.le_trans Hb2.out.size hgm, hB6.lt, Nat.le_refl _⟩, hdom⟩
 clear hB6 hgm hb6 hdom z0 z2 z3
 have qs1 : w6.cell? ⟨g1, 1, none⟩ = some (.slice a1 n1 c1) := HX.out.1.cell (o := 1) rfl
 have hns1 : n1 ≤ 9223372036854775807 := by have := Hbd1.out; omega
 go_wp2_with fail
 clear qs1
 go_loopw [16] (fun iv wr => ∃ (k : Nat) (u1 : Value), k ≤ n1 ∧ iv = .int .i64 k ∧ Hid (Built h0 w6.heap.size gm w [.string (toB nm), u1, .int .i64 li, .int .i64 co] [rowOf 114 4 vC u1 (vs.take k)] (fun _ => True) wr) ∧ Hid (Blk wr g1 [.string (toB nm), .slice a1 n1 c1, .int .i64 li, .int .i64 co] ∧ Blk wr gr zEn)) (fun iv _ => n1 - (intOf iv).toNat)
 case atStart => exact ⟨0, .slice none 0 0, Nat.zero_le _, rfl, HI, HX⟩
 case round =>
  obtain ⟨k, u1, hkn, rfl, HI, HX⟩ := hrel
  by_cases hlt : k < n1
  ·have hks : k < vs.length := by rw [Hn1.out]; exact hlt
   obtain ⟨b0, o0, hb0, hidx, hcell⟩ := FlatV.at (n := n1) (cap := c1) (a := a1) (HF1.out.mono HI.out.le) vC_len (by decide) (i := k) hks Tryz.underlying69 sizeSV
   have HT : Hid (vs.take (k + 1) = vs.take k ++ [vs[k]]) := Yq (List.take_succ_eq_append_getElem hks)
   have hr : wr.rangeAt b0 o0 (vC vs[k]) := hcell
   clear hcell
   generalize vs[k] = y at *
   go_upto_region 5 with (first
    | (refine wpList_load_seg rfl 116 _ rfl _ _ rfl _ _ hr Tryz.underlying116 rfl infoVl ?_)
    | (refine wpList_alloc_lay rfl 116 rfl zVl zeroVl ?_; (intro w7 g7 hg7 hB7 hb7; clear hr))
    | (refine wpList_store_all rfl 116 _ _ rfl g7 (vC y) rfl rfl zVl hB7 infoVl rfl (one_vC y) ?_; (intro w8 hB8 hgr8; have hb8 := Below.grown hb7 hgr8 hb7.size (fun _ e => by cases e; exact hg7); clear hb7 hgr8 hB7)))
   have HI5 := Yq (HI.out.next (fun _ _ _ h => h) hb8)
   have HX5 : Hid (Blk w8 g1 [.string (toB nm), .slice a1 n1 c1, .int .i64 li, .int .i64 co] ∧ Blk w8 gr zEn) := Yq ⟨HX.out.1.below hb8 HX.out.1.lt, HX.out.2.below hb8 HX.out.2.lt⟩
   have cu : w8.cell? ⟨gm, 1, none⟩ = some u1 := HI5.out.blk.cell (o := 1) rfl
   have hW8 := hB8.whole
   have hown5 : w8.ownsRow w6.heap.size 114 4 u1 (vs.take k).length ((vs.take k).flatMap vC) := HI5.out.rows.own (rowOf 114 4 vC u1 (vs.take k)) (by simp)
   have hbn5 : ((vs.take k).length + 1) * 40 ≤ 140737488355328 := by
    have h1 := Hbd1.out
    have h2 : (vs.take k).length ≤ k := by exact List.length_take_le k _
    omega
   clear hb8 hg7 hB8 hidx hb0
   go_wp2_with (first
    | (refine wpList_load_seg rfl 116 _ rfl _ _ rfl _ _ hW8 Tryz.underlying116 rfl infoVl ?_)
    | (refine wpList_buildSlice1 rfl 65 114 _ rfl (vC y) (.agg (vC y).toArray) rfl Tryz.underlying65 info2RV (show 0 < 4 by decide) (show 4 ≤ 1000 by decide) rfl ?_)
    | (at_builtin; refine wpList_append_own1 T_RV rfl _ _ rfl (vC y) rfl hown5 rfl rfl (one_vC _) hbn5 HI5.out.lts.2.2 ?_; (intro u9 w9 ho9 hg9 hat9 hone9; have HB9 := HI5.out.blk8 (r := rowOf 114 4 vC u1 (vs.take k)) (by simp) hg9; clear cu))
    | (refine wpList_store_blk1 rfl 65 _ _ rfl gm 1 u9 rfl rfl _ HB9 info1RV ?_ hone9 ?_; (· show 1 + 1 ≤ 4; decide); (intro w10 hB10 hg10 hs10)))
   have H9 : Hid (Built h0 w6.heap.size gm w [.string (toB nm), u9, .int .i64 li, .int .i64 co] [rowOf 114 4 vC u9 (vs.take (k + 1))] (fun _ => True) w10) := Yq (by
    rw [HT.out, rowOf_snoc]
    exact HI5.out.push (L := []) (M := []) (r := rowOf 114 4 vC u1 (vs.take k)) ho9 hg9 hat9 hB10 hg10 (fun h' hle => (fun _ _ _ h => h) _ _ hle HI5.out.rd))
   have HX9 : Hid (Blk w10 g1 [.string (toB nm), .slice a1 n1 c1, .int .i64 li, .int .i64 co] ∧ Blk w10 gr zEn) := Yq ⟨HI5.out.other (r := rowOf 114 4 vC u1 (vs.take k)) (by simp) HX5.out.1 Hgs.out.1 Hgs.out.2.2.1 hg9 hg10, HI5.out.other (r := rowOf 114 4 vC u1 (vs.take k)) (by simp) HX5.out.2 Hgs.out.2.1 Hgs.out.2.2.2.1 hg9 hg10⟩
   go_roundw
   case rel => exact ⟨k + 1, u9, by omega, by go_num, H9, HX9⟩
   case measure => simp [intOf]; omega
  ·obtain rfl : n1 = k := by omega
   have HI2 : Hid (Built h0 w6.heap.size gm w [.string (toB nm), u1, .int .i64 li, .int .i64 co] [rowOf 114 4 vC u1 vs] (fun _ => True) wr) := Yq (by
    have h1 := HI.out
    rw [List.take_of_length_le (by rw [Hn1.out]; exact Nat.le_refl _)] at h1
    exact h1)
   clear HI
   obtain ⟨w20, hwr⟩ : ∃ z, z = wr := ⟨_, rfl⟩
   subst hwr
   have HI := HI2
   clear HI2
   clear hlt hkn
   have hWm := HI.out.blk.whole
   have HBr := HX.out.2
   go_wp2_with (first
    | (refine wpList_load_seg rfl 67 _ rfl _ _ rfl _ _ hWm Tryz.underlying67 rfl infoRE ?_)
    | (refine wpList_store_all rfl 67 _ _ rfl gr [.string (toB nm), u1, .int .i64 li, .int .i64 co] rfl rfl zEn HBr infoRE rfl ?_ ?_; (· intro u hu; simp only [List.mem_cons, List.not_mem_nil, or_false] at hu; rcases hu with rfl | rfl | rfl | rfl <;> first | rfl | exact own_one (HI.out.rows.own _ (by simp only [List.mem_cons]; exact .inl rfl)) | exact own_one (HI.out.rows.own _ (by simp only [List.mem_cons]; exact .inr (.inl rfl))) | exact own_one (HI.out.rows.own _ (by simp only [List.mem_cons]; exact .inr (.inr (.inl rfl)))) | exact own_one (HI.out.rows.own _ (by simp only [List.mem_cons]; exact .inr (.inr (.inr (.inl rfl)))))); (intro w30 hB30 hgr30)))
   obtain ⟨hrd, hrows, hbel, _⟩ := HI.out.done (fun _ _ _ h => h) hgr30 Hgs.out.2.2.2.2 Hgs.out.2.1
   refine bodyPost_ret (v := .agg [.string (toB nm), u1, .int .i64 li, .int .i64 co].toArray) ?_ rfl ⟨_, rfl, ?_, hbel⟩
   ·exact results_blk (p := 2) (ty := 67) rfl _ _ gr [.string (toB nm), u1, .int .i64 li, .int .i64 co] rfl hB30 _ Tryz.underlying67 rfl infoRE
   ·exact ⟨_, rfl, ⟨FlatV.of_ownsJ (hrows.own (rowOf 114 4 vC u1 vs) (by simp)) (by have := HI.out.lts; omega), by rw [Hn1.out]; exact Hbd1.out⟩⟩
def ofMessageAt (N : Nat) : Prop := ∀ (h0 : Frag) (x : Sx.Msg) (cs : List Value) (w : World), SizeOf.sizeOf x < N → FLe h0 (frag w) → MsgR h0 x cs →
 Calls Tryz.prog 18 #[.agg cs.toArray] w (TreePost MsgR h0 w x)
set_option maxHeartbeats 16000000 in
set_option maxRecDepth 100000 in
theorem ofMessage_succ (N : Nat) (ih : ofMessageAt N) : ofMessageAt (N + 1) := by
 intro h0 x cs w hsz hle hx
 obtain ⟨nm, fs, os, ms, es, rs, ns, li, co⟩ := x
 have Hsize : Hid (∀ k ∈ ms, SizeOf.sizeOf k < N) := Yq (fun k hk => by
  have h1 := List.sizeOf_lt_of_mem hk
  rw [Sx.Msg.mk.sizeOf_spec] at hsz
  omega)
 rw [MsgR] at hx
 obtain ⟨v1, v2, v3, v4, v5, v6, cs3, cs4, hcs, ⟨q1, q2, q3, q4, q5, q6⟩, hr3, hr4⟩ := hx
 obtain ⟨a1, c1, e1, _, _, _⟩ := q1.1.len
 obtain ⟨a2, c2, e2, _, _, _⟩ := q2.1.len
 obtain ⟨a3, c3, e3, _, _, _⟩ := q3.1.len
 obtain ⟨a4, c4, e4, _, _, _⟩ := q4.1.len
 obtain ⟨a5, c5, e5, _, _, _⟩ := q5.1.len
 obtain ⟨a6, c6, e6, _, _, _⟩ := q6.1.len
 subst e1 e2 e3 e4 e5 e6 hcs
 have Hbd1 := Yq q1.2
 have Hbd2 := Yq q2.2
 have Hbd3 := Yq q3.2
 have Hbd4 := Yq q4.2
 have Hbd5 := Yq q5.2
 have Hbd6 := Yq q6.2
 have HF1 := Yq q1.1
 have HF2 := Yq q2.1
 have HF3 := Yq q3.1
 have HF4 := Yq q4.1
 have HF5 := Yq q5.1
 have HF6 := Yq q6.1
 have HR3 := Yq hr3; have HR4 := Yq hr4
 have Hq2 := Yq q2; have Hq6 := Yq q6; have Hq5 := Yq q5
 obtain ⟨n1, hn1⟩ : ∃ z, z = fs.length := ⟨_, rfl⟩
 obtain ⟨n2, hn2⟩ : ∃ z, z = os.length := ⟨_, rfl⟩
 obtain ⟨n3, hn3⟩ : ∃ z, z = cs3.length := ⟨_, rfl⟩
 obtain ⟨n4, hn4⟩ : ∃ z, z = cs4.length := ⟨_, rfl⟩
 obtain ⟨n5, hn5⟩ : ∃ z, z = rs.length := ⟨_, rfl⟩
 obtain ⟨n6, hn6⟩ : ∃ z, z = ns.length := ⟨_, rfl⟩
 rw [← hn1] at Hbd1 HF1
 rw [← hn2] at Hbd2 HF2 Hq2
 rw [← hn3] at Hbd3 HF3
 rw [← hn4] at Hbd4 HF4
 rw [← hn5] at Hbd5 HF5 Hq5
 rw [← hn6] at Hbd6 HF6 Hq6
 rw [← hn1, ← hn2, ← hn3, ← hn4, ← hn5, ← hn6]
 have Hn1 := Yq hn1.symm
 have Hn2 := Yq hn2.symm
 have Hn3 := Yq hn3.symm
 have Hn4 := Yq hn4.symm
 have Hn5 := Yq hn5.symm
 have Hn6 := Yq hn6.symm
 have Hle := Yq hle
 have hbd := rMsg_build
 clear hle hn1 hn2 hn3 hn4 hn5 hn6 q1 q2 q3 q4 q5 q6 hr3 hr4 hsz
 go_enter Tryz.func18, Tryz.ntmps18
 go_upto_region 1 with (first
  | (refine wpList_box_lay rfl 45 _ rfl [.string (toB nm), .slice a1 n1 c1, .slice a2 n2 c2, .slice a3 n3 c3, .slice a4 n4 c4, .slice a5 n5 c5, .slice a6 n6 c6, .int .i64 li, .int .i64 co] rfl ?_; (intro w1 g1 hg1 hB1 hb1))
  | (refine wpList_alloc_lay rfl 63 rfl zMs zeroRM ?_; (intro w2 gr hgr hBr hb2)))
 have HB12 := Yq (hB1.below hb2 hB1.lt); have HBr2 := Yq hBr
 have Hb2 : Hid (Below w.heap.size w w2) := Yq (hb1.trans (hb2.mono hb1.size))
 have Hg12 : Hid (w.heap.size ≤ gr) := Yq (Nat.le_trans hb1.size hgr)
 clear hB1 hb1 hb2 hBr hgr hg1
 have z0 : w2.cell? ⟨g1, 0, none⟩ = some (.string (toB nm)) := HB12.out.cell (o := 0) rfl
 have z2 : w2.cell? ⟨g1, 2, none⟩ = some (.slice a2 n2 c2) := HB12.out.cell (o := 2) rfl
 have z6 : w2.cell? ⟨g1, 6, none⟩ = some (.slice a6 n6 c6) := HB12.out.cell (o := 6) rfl
 have z7 : w2.cell? ⟨g1, 7, none⟩ = some (.int .i64 li) := HB12.out.cell (o := 7) rfl
 have z8 : w2.cell? ⟨g1, 8, none⟩ = some (.int .i64 co) := HB12.out.cell (o := 8) rfl
 go_upto_region 2 with (first
  | (refine wpList_alloc_lay rfl 63 rfl zMs zeroRM ?_; (intro w5 gm hgm hBv hb5))
  | (refine wpList_store_all rfl 63 _ _ rfl gm [.string (toB nm), (.slice none 0 0), .slice a2 n2 c2, (.slice none 0 0), (.slice none 0 0), (.slice none 0 0), .slice a6 n6 c6, .int .i64 li, .int .i64 co] rfl rfl zMs hBv infoRM rfl ?_ ?_; (· intro u hu; simp only [List.mem_cons, List.not_mem_nil, or_false] at hu; rcases hu with rfl | rfl | rfl | rfl | rfl | rfl | rfl | rfl | rfl <;> rfl); (intro w6 hB6 hgr6; have hb6 := Below.grown hb5 hgr6 hb5.size (fun _ e => by cases e; exact hgm); clear hb5 hgr6 hBv)))
 have HX : Hid (Blk w6 g1 [.string (toB nm), .slice a1 n1 c1, .slice a2 n2 c2, .slice a3 n3 c3, .slice a4 n4 c4, .slice a5 n5 c5, .slice a6 n6 c6, .int .i64 li, .int .i64 co] ∧ Blk w6 gr zMs) := Yq ⟨HB12.out.below hb6 HB12.out.lt, HBr2.out.below hb6 HBr2.out.lt⟩
 have Hgs : Hid (g1 < w6.heap.size ∧ gr < w6.heap.size ∧ g1 ≠ gm ∧ gr ≠ gm ∧ w.heap.size ≤ gr) := Yq ⟨HX.out.1.lt, HX.out.2.lt, fun e => by have := HB12.out.lt; omega, fun e => by have := HBr2.out.lt; omega, Hg12.out⟩
 have hdom := frag_dom Hle.out
 have HI : Hid (Built h0 w6.heap.size gm w [.string (toB nm), (.slice none 0 0), .slice a2 n2 c2, (.slice none 0 0), (.slice none 0 0), (.slice none 0 0), .slice a6 n6 c6, .int .i64 li, .int .i64 co] [rowOf 110 10 fC (.slice none 0 0) [], rowOf 112 2 rC (.slice none 0 0) [], rowCs 63 9 (.slice none 0 0) [], rowCs 67 4 (.slice none 0 0) []] (ofRD (.slice a2 n2 c2) os (.slice a6 n6 c6) ns [] [] [] []) w6) := Yq ⟨hB6, Rows.nil _ _ _ (fun r hr => by simp only [List.mem_cons, List.not_mem_nil, or_false] at hr; rcases hr with rfl | rfl | rfl | rfl <;> exact ⟨rfl, rfl, rfl⟩), ⟨⟨⟨Hq2.out.1.mono (fragJ_of (fun k o e => Nat.lt_of_lt_of_le (hdom k o e) (Nat.le_trans Hb2.out.size hb6.size))), Hq2.out.2⟩, ⟨Hq6.out.1.mono (fragJ_of (fun k o e => Nat.lt_of_lt_of_le (hdom k o e) (Nat.le_trans Hb2.out.size hb6.size))), Hq6.out.2⟩⟩, by rw [MsgsR], by rw [EnsR]⟩, Hle.out.trans ((below_le Hb2.out).trans (below_le hb6)), Hb2.out.trans (hb6.mono Hb2.out.size), ⟨Nat.le_trans Hb2.out.size hgm, hB6.lt, Nat.le_refl _⟩, hdom⟩
 clear hB6 hgm hb6 hdom z0 z2 z6 z7 z8
 have qs1 : w6.cell? ⟨g1, 1, none⟩ = some (.slice a1 n1 c1) := HX.out.1.cell (o := 1) rfl
 have hns1 : n1 ≤ 9223372036854775807 := by have := Hbd1.out; omega
 go_wp2_with fail
 clear qs1
 go_loopw [26] (fun iv wr => ∃ (k : Nat) (u1 : Value), k ≤ n1 ∧ iv = .int .i64 k ∧ Hid (Built h0 w6.heap.size gm w [.string (toB nm), u1, .slice a2 n2 c2, (.slice none 0 0), (.slice none 0 0), (.slice none 0 0), .slice a6 n6 c6, .int .i64 li, .int .i64 co] [rowOf 110 10 fC u1 (fs.take k), rowOf 112 2 rC (.slice none 0 0) [], rowCs 63 9 (.slice none 0 0) [], rowCs 67 4 (.slice none 0 0) []] (ofRD (.slice a2 n2 c2) os (.slice a6 n6 c6) ns [] [] [] []) wr) ∧ Hid (Blk wr g1 [.string (toB nm), .slice a1 n1 c1, .slice a2 n2 c2, .slice a3 n3 c3, .slice a4 n4 c4, .slice a5 n5 c5, .slice a6 n6 c6, .int .i64 li, .int .i64 co] ∧ Blk wr gr zMs)) (fun iv _ => n1 - (intOf iv).toNat)
 case atStart => exact ⟨0, .slice none 0 0, Nat.zero_le _, rfl, HI, HX⟩
 case round =>
  obtain ⟨k, u1, hkn, rfl, HI, HX⟩ := hrel
  by_cases hlt : k < n1
  ·have hks : k < fs.length := by rw [Hn1.out]; exact hlt
   obtain ⟨b0, o0, hb0, hidx, hcell⟩ := FlatV.at (n := n1) (cap := c1) (a := a1) (HF1.out.mono HI.out.le) fC_len (by decide) (i := k) hks Tryz.underlying41 sizeSF
   have HT : Hid (fs.take (k + 1) = fs.take k ++ [fs[k]]) := Yq (List.take_succ_eq_append_getElem hks)
   have hr : wr.rangeAt b0 o0 (fC fs[k]) := hcell
   clear hcell
   generalize fs[k] = y at *
   go_upto_region 5 with (first
    | (refine wpList_load_seg rfl 47 _ rfl _ _ rfl _ _ hr Tryz.underlying47 rfl infoF ?_)
    | (refine wpList_alloc_lay rfl 47 rfl zF zeroF ?_; (intro w7 g7 hg7 hB7 hb7; clear hr))
    | (refine wpList_store_all rfl 47 _ _ rfl g7 (fC y) rfl rfl zF hB7 infoF rfl (one_fC y) ?_; (intro w8 hB8 hgr8; have hb8 := Below.grown hb7 hgr8 hb7.size (fun _ e => by cases e; exact hg7); clear hb7 hgr8 hB7)))
   have HI5 := Yq (HI.out.next (ofRD_mono _ _ _ _ _ _ _ _) hb8)
   have HX5 : Hid (Blk w8 g1 [.string (toB nm), .slice a1 n1 c1, .slice a2 n2 c2, .slice a3 n3 c3, .slice a4 n4 c4, .slice a5 n5 c5, .slice a6 n6 c6, .int .i64 li, .int .i64 co] ∧ Blk w8 gr zMs) := Yq ⟨HX.out.1.below hb8 HX.out.1.lt, HX.out.2.below hb8 HX.out.2.lt⟩
   have cu : w8.cell? ⟨gm, 1, none⟩ = some u1 := HI5.out.blk.cell (o := 1) rfl
   have hW8 := hB8.whole
   have hown5 : w8.ownsRow w6.heap.size 110 10 u1 (fs.take k).length ((fs.take k).flatMap fC) := HI5.out.rows.own (rowOf 110 10 fC u1 (fs.take k)) (by simp)
   have hbn5 : ((fs.take k).length + 1) * 112 ≤ 140737488355328 := by
    have h1 := Hbd1.out
    have h2 : (fs.take k).length ≤ k := by exact List.length_take_le k _
    omega
   clear hb8 hg7 hB8 hidx hb0
   go_wp2_with (first
    | (refine wpList_load_seg rfl 47 _ rfl _ _ rfl _ _ hW8 Tryz.underlying47 rfl infoF ?_)
    | (refine wpList_buildSlice1 rfl 60 110 _ rfl (fC y) (.agg (fC y).toArray) rfl Tryz.underlying60 info2RF (show 0 < 10 by decide) (show 10 ≤ 1000 by decide) rfl ?_)
    | (at_builtin; refine wpList_append_own1 T_RF rfl _ _ rfl (fC y) rfl hown5 rfl rfl (one_fC _) hbn5 HI5.out.lts.2.2 ?_; (intro u9 w9 ho9 hg9 hat9 hone9; have HB9 := HI5.out.blk8 (r := rowOf 110 10 fC u1 (fs.take k)) (by simp) hg9; clear cu))
    | (refine wpList_store_blk1 rfl 60 _ _ rfl gm 1 u9 rfl rfl _ HB9 info1RF ?_ hone9 ?_; (· show 1 + 1 ≤ 9; decide); (intro w10 hB10 hg10 hs10)))
   have H9 : Hid (Built h0 w6.heap.size gm w [.string (toB nm), u9, .slice a2 n2 c2, (.slice none 0 0), (.slice none 0 0), (.slice none 0 0), .slice a6 n6 c6, .int .i64 li, .int .i64 co] [rowOf 110 10 fC u9 (fs.take (k + 1)), rowOf 112 2 rC (.slice none 0 0) [], rowCs 63 9 (.slice none 0 0) [], rowCs 67 4 (.slice none 0 0) []] (ofRD (.slice a2 n2 c2) os (.slice a6 n6 c6) ns [] [] [] []) w10) := Yq (by
    rw [HT.out, rowOf_snoc]
    exact HI5.out.push (L := []) (M := [rowOf 112 2 rC (.slice none 0 0) [], rowCs 63 9 (.slice none 0 0) [], rowCs 67 4 (.slice none 0 0) []]) (r := rowOf 110 10 fC u1 (fs.take k)) ho9 hg9 hat9 hB10 hg10 (fun h' hle => (ofRD_mono _ _ _ _ _ _ _ _) _ _ hle HI5.out.rd))
   have HX9 : Hid (Blk w10 g1 [.string (toB nm), .slice a1 n1 c1, .slice a2 n2 c2, .slice a3 n3 c3, .slice a4 n4 c4, .slice a5 n5 c5, .slice a6 n6 c6, .int .i64 li, .int .i64 co] ∧ Blk w10 gr zMs) := Yq ⟨HI5.out.other (r := rowOf 110 10 fC u1 (fs.take k)) (by simp) HX5.out.1 Hgs.out.1 Hgs.out.2.2.1 hg9 hg10, HI5.out.other (r := rowOf 110 10 fC u1 (fs.take k)) (by simp) HX5.out.2 Hgs.out.2.1 Hgs.out.2.2.2.1 hg9 hg10⟩
   go_roundw
   case rel => exact ⟨k + 1, u9, by omega, by go_num, H9, HX9⟩
   case measure => simp [intOf]; omega
  ·obtain rfl : n1 = k := by omega
   have HI2 : Hid (Built h0 w6.heap.size gm w [.string (toB nm), u1, .slice a2 n2 c2, (.slice none 0 0), (.slice none 0 0), (.slice none 0 0), .slice a6 n6 c6, .int .i64 li, .int .i64 co] [rowOf 110 10 fC u1 fs, rowOf 112 2 rC (.slice none 0 0) [], rowCs 63 9 (.slice none 0 0) [], rowCs 67 4 (.slice none 0 0) []] (ofRD (.slice a2 n2 c2) os (.slice a6 n6 c6) ns [] [] [] []) wr) := Yq (by
    have h1 := HI.out
    rw [List.take_of_length_le (by rw [Hn1.out]; exact Nat.le_refl _)] at h1
    exact h1)
   clear HI
   obtain ⟨w20, hwr⟩ : ∃ z, z = wr := ⟨_, rfl⟩
   subst hwr
   have HI := HI2
   clear HI2
   clear hlt hkn
   have qs5 : w20.cell? ⟨g1, 5, none⟩ = some (.slice a5 n5 c5) := HX.out.1.cell (o := 5) rfl
   have hns5 : n5 ≤ 9223372036854775807 := by have := Hbd5.out; omega
   go_wp2_with fail
   clear qs5
   go_loopw [40] (fun iv wr => ∃ (k : Nat) (u5 : Value), k ≤ n5 ∧ iv = .int .i64 k ∧ Hid (Built h0 w6.heap.size gm w [.string (toB nm), u1, .slice a2 n2 c2, (.slice none 0 0), (.slice none 0 0), u5, .slice a6 n6 c6, .int .i64 li, .int .i64 co] [rowOf 110 10 fC u1 fs, rowOf 112 2 rC u5 (rs.take k), rowCs 63 9 (.slice none 0 0) [], rowCs 67 4 (.slice none 0 0) []] (ofRD (.slice a2 n2 c2) os (.slice a6 n6 c6) ns [] [] [] []) wr) ∧ Hid (Blk wr g1 [.string (toB nm), .slice a1 n1 c1, .slice a2 n2 c2, .slice a3 n3 c3, .slice a4 n4 c4, .slice a5 n5 c5, .slice a6 n6 c6, .int .i64 li, .int .i64 co] ∧ Blk wr gr zMs)) (fun iv _ => n5 - (intOf iv).toNat)
   case atStart => exact ⟨0, .slice none 0 0, Nat.zero_le _, rfl, HI, HX⟩
   case round =>
    obtain ⟨k, u5, hkn, rfl, HI, HX⟩ := hrel
    by_cases hlt : k < n5
    ·have hks : k < rs.length := by rw [Hn5.out]; exact hlt
     obtain ⟨b0, o0, hb0, hidx, hcell⟩ := FlatV.at (n := n5) (cap := c5) (a := a5) (HF5.out.mono HI.out.le) rC_len (by decide) (i := k) hks Tryz.underlying43 sizeSR
     have HT : Hid (rs.take (k + 1) = rs.take k ++ [rs[k]]) := Yq (List.take_succ_eq_append_getElem hks)
     have hr : wr.rangeAt b0 o0 (rC rs[k]) := hcell
     clear hcell
     generalize rs[k] = y at *
     go_upto_region 10 with (first
      | (refine wpList_load_seg rfl 115 _ rfl _ _ rfl _ _ hr Tryz.underlying115 rfl infoRg ?_)
      | (refine wpList_alloc_lay rfl 115 rfl zRg zeroRg ?_; (intro w7 g7 hg7 hB7 hb7; clear hr))
      | (refine wpList_store_all rfl 115 _ _ rfl g7 (rC y) rfl rfl zRg hB7 infoRg rfl (one_rC y) ?_; (intro w8 hB8 hgr8; have hb8 := Below.grown hb7 hgr8 hb7.size (fun _ e => by cases e; exact hg7); clear hb7 hgr8 hB7)))
     have HI5 := Yq (HI.out.next (ofRD_mono _ _ _ _ _ _ _ _) hb8)
     have HX5 : Hid (Blk w8 g1 [.string (toB nm), .slice a1 n1 c1, .slice a2 n2 c2, .slice a3 n3 c3, .slice a4 n4 c4, .slice a5 n5 c5, .slice a6 n6 c6, .int .i64 li, .int .i64 co] ∧ Blk w8 gr zMs) := Yq ⟨HX.out.1.below hb8 HX.out.1.lt, HX.out.2.below hb8 HX.out.2.lt⟩
     have cu : w8.cell? ⟨gm, 5, none⟩ = some u5 := HI5.out.blk.cell (o := 5) rfl
     have hW8 := hB8.whole
     have hown5 : w8.ownsRow w6.heap.size 112 2 u5 (rs.take k).length ((rs.take k).flatMap rC) := HI5.out.rows.own (rowOf 112 2 rC u5 (rs.take k)) (by simp)
     have hbn5 : ((rs.take k).length + 1) * 16 ≤ 140737488355328 := by
      have h1 := Hbd5.out
      have h2 : (rs.take k).length ≤ k := by exact List.length_take_le k _
      omega
     clear hb8 hg7 hB8 hidx hb0
     go_wp2_with (first
      | (refine wpList_load_seg rfl 115 _ rfl _ _ rfl _ _ hW8 Tryz.underlying115 rfl infoRg ?_)
      | (refine wpList_buildSlice1 rfl 61 112 _ rfl (rC y) (.agg (rC y).toArray) rfl Tryz.underlying61 info2RR (show 0 < 2 by decide) (show 2 ≤ 1000 by decide) rfl ?_)
      | (at_builtin; refine wpList_append_own1 T_RR rfl _ _ rfl (rC y) rfl hown5 rfl rfl (one_rC _) hbn5 HI5.out.lts.2.2 ?_; (intro u9 w9 ho9 hg9 hat9 hone9; have HB9 := HI5.out.blk8 (r := rowOf 112 2 rC u5 (rs.take k)) (by simp) hg9; clear cu))
      | (refine wpList_store_blk1 rfl 61 _ _ rfl gm 5 u9 rfl rfl _ HB9 info1RR ?_ hone9 ?_; (· show 5 + 1 ≤ 9; decide); (intro w10 hB10 hg10 hs10)))
     have H9 : Hid (Built h0 w6.heap.size gm w [.string (toB nm), u1, .slice a2 n2 c2, (.slice none 0 0), (.slice none 0 0), u9, .slice a6 n6 c6, .int .i64 li, .int .i64 co] [rowOf 110 10 fC u1 fs, rowOf 112 2 rC u9 (rs.take (k + 1)), rowCs 63 9 (.slice none 0 0) [], rowCs 67 4 (.slice none 0 0) []] (ofRD (.slice a2 n2 c2) os (.slice a6 n6 c6) ns [] [] [] []) w10) := Yq (by
      rw [HT.out, rowOf_snoc]
      exact HI5.out.push (L := [rowOf 110 10 fC u1 fs]) (M := [rowCs 63 9 (.slice none 0 0) [], rowCs 67 4 (.slice none 0 0) []]) (r := rowOf 112 2 rC u5 (rs.take k)) ho9 hg9 hat9 hB10 hg10 (fun h' hle => (ofRD_mono _ _ _ _ _ _ _ _) _ _ hle HI5.out.rd))
     have HX9 : Hid (Blk w10 g1 [.string (toB nm), .slice a1 n1 c1, .slice a2 n2 c2, .slice a3 n3 c3, .slice a4 n4 c4, .slice a5 n5 c5, .slice a6 n6 c6, .int .i64 li, .int .i64 co] ∧ Blk w10 gr zMs) := Yq ⟨HI5.out.other (r := rowOf 112 2 rC u5 (rs.take k)) (by simp) HX5.out.1 Hgs.out.1 Hgs.out.2.2.1 hg9 hg10, HI5.out.other (r := rowOf 112 2 rC u5 (rs.take k)) (by simp) HX5.out.2 Hgs.out.2.1 Hgs.out.2.2.2.1 hg9 hg10⟩
     go_roundw
     case rel => exact ⟨k + 1, u9, by omega, by go_num, H9, HX9⟩
     case measure => simp [intOf]; omega
    ·obtain rfl : n5 = k := by omega
     have HI2 : Hid (Built h0 w6.heap.size gm w [.string (toB nm), u1, .slice a2 n2 c2, (.slice none 0 0), (.slice none 0 0), u5, .slice a6 n6 c6, .int .i64 li, .int .i64 co] [rowOf 110 10 fC u1 fs, rowOf 112 2 rC u5 rs, rowCs 63 9 (.slice none 0 0) [], rowCs 67 4 (.slice none 0 0) []] (ofRD (.slice a2 n2 c2) os (.slice a6 n6 c6) ns [] [] [] []) wr) := Yq (by
      have h1 := HI.out
      rw [List.take_of_length_le (by rw [Hn5.out]; exact Nat.le_refl _)] at h1
      exact h1)
     clear HI
     obtain ⟨w21, hwr⟩ : ∃ z, z = wr := ⟨_, rfl⟩
     subst hwr
     have HI := HI2
     clear HI2
     clear hlt hkn
     have qs3 : w21.cell? ⟨g1, 3, none⟩ = some (.slice a3 n3 c3) := HX.out.1.cell (o := 3) rfl
     have hns3 : n3 ≤ 9223372036854775807 := by have := Hbd3.out; omega
     go_wp2_with fail
     clear qs3
     go_loopw [54] (fun iv wr => ∃ (k : Nat) (u3 : Value) (es3 : List (List Value)), k ≤ n3 ∧ iv = .int .i64 k ∧ Hid (Built h0 w6.heap.size gm w [.string (toB nm), u1, .slice a2 n2 c2, u3, (.slice none 0 0), u5, .slice a6 n6 c6, .int .i64 li, .int .i64 co] [rowOf 110 10 fC u1 fs, rowOf 112 2 rC u5 rs, rowCs 63 9 u3 es3, rowCs 67 4 (.slice none 0 0) []] (ofRD (.slice a2 n2 c2) os (.slice a6 n6 c6) ns (ms.take k) es3 [] []) wr) ∧ Hid (Blk wr g1 [.string (toB nm), .slice a1 n1 c1, .slice a2 n2 c2, .slice a3 n3 c3, .slice a4 n4 c4, .slice a5 n5 c5, .slice a6 n6 c6, .int .i64 li, .int .i64 co] ∧ Blk wr gr zMs) ∧ Hid (es3.length = k)) (fun iv _ => n3 - (intOf iv).toNat)
     case atStart => exact ⟨0, .slice none 0 0, [], Nat.zero_le _, rfl, HI, HX, Yq rfl⟩
     case round =>
      obtain ⟨k, u3, es3, hkn, rfl, HI, HX, HL⟩ := hrel
      by_cases hlt : k < n3
      ·have hks : k < cs3.length := by rw [Hn3.out]; exact hlt
       have hkf : k < ms.length := by rw [← HR3.out.len]; exact hks
       obtain ⟨b0, o0, hb0, hidx, hcell⟩ := FlatC.at (n := n3) (cap := c3) (a := a3) (HF3.out.mono HI.out.le) (by decide) (i := k) hks Tryz.underlying23 sizeSM
       have hrd := HR3.out.at hkf hks
       have HT : Hid (ms.take (k + 1) = ms.take k ++ [ms[k]]) := Yq (List.take_succ_eq_append_getElem hkf)
       have hr : wr.rangeAt b0 o0 cs3[k] := hcell
       have Hsz := Yq (Hsize.out _ (List.getElem_mem hkf))
       clear hcell
       generalize ms[k] = y at *
       generalize cs3[k] = yc at *
       have HRd := Yq hrd; have HYl := Yq hrd.size; have HY1 := Yq hrd.one
       clear hrd
       go_upto_region 15 with (first
        | (refine wpList_load_seg rfl 45 _ rfl _ _ rfl _ _ hr Tryz.underlying45 rfl ?_ ?_; (· rw [HYl.out]; exact infoMs))
        | (refine wpList_alloc_lay rfl 45 rfl zMs zeroMs ?_; (intro w7 g7 hg7 hB7 hb7; clear hr))
        | (refine wpList_store_all rfl 45 _ _ rfl g7 yc rfl rfl zMs hB7 ?_ ?_ ?_ ?_; (· rw [HYl.out]; exact infoMs); (· exact HYl.out); (· exact HY1.out); (intro w8 hB8 hgr8; have hb8 := Below.grown hb7 hgr8 hb7.size (fun _ e => by cases e; exact hg7); clear hb7 hgr8 hB7)))
       have HI5 := Yq ((HI.out.next (ofRD_mono _ _ _ _ _ _ _ _) hb8).next (ofRD_mono _ _ _ _ _ _ _ _) (Below.refl _ _).drew)
       have HX5 : Hid (Blk w8.drew g1 [.string (toB nm), .slice a1 n1 c1, .slice a2 n2 c2, .slice a3 n3 c3, .slice a4 n4 c4, .slice a5 n5 c5, .slice a6 n6 c6, .int .i64 li, .int .i64 co] ∧ Blk w8.drew gr zMs) := Yq ⟨HX.out.1.below hb8.drew HX.out.1.lt, HX.out.2.below hb8.drew HX.out.2.lt⟩
       have HB7 : Hid (Blk w8.drew g7 yc) := Yq hB8
       have Hn7 : Hid (∀ j, u3.ownBlock = some j → j = g7 → False) := Yq (fun j hj e => by have h1 := ((HI.out.rows.own (rowCs 63 9 u3 es3) (by simp)).lt j hj).2; omega)
       clear hb8 hg7 hB8 hidx hb0
       go_wp2_with fail
       refine wp_region_G 7 (fun _ => True) (fun w' => Blk w' gm [.string (toB nm), u1, .slice a2 n2 c2, u3, (.slice none 0 0), u5, .slice a6 n6 c6, .int .i64 li, .int .i64 co] ∧ Blk w' g7 yc) (by kernel_rfl) trivial ⟨HI5.out.blk, HB7.out⟩ (fun _ => ?_)
       refine wpAnyG_take0 (i := 0) (v := .pointer (some ⟨gm, 3, none⟩)) rfl (by kernel_rfl) (fun _ _ _ h => h) (.inl ⟨by rfl, fun w hw => by go_simp⟩) (InvG.mk trivial ⟨HI5.out.blk, HB7.out⟩) ?_
       refine fSxConvA8_82 ?_
       refine wpAnyG_take (i := 1) (v := u3) rfl (by kernel_rfl) (fun _ _ _ h => h) (.inl ⟨by rfl, fun w hw => by have hc := hw.2.1.cell (o := 3) (u := u3) rfl; clear hw; go_simp⟩) (InvG.mk trivial ⟨HI5.out.blk, HB7.out⟩) ?_
       refine fSxConvA8_82 ?_
       refine wpAnyG_take (i := 2) (v := .agg yc.toArray) rfl (by kernel_rfl) (fun _ _ _ h => h) (yieldsIf_load_mid (by rfl) 45 _ rfl g7 0 (by go_simp) yc _ (fun w h => h.2.2.whole) Tryz.underlying45 rfl (by rw [HYl.out]; exact infoMs)) (InvG.mk trivial ⟨HI5.out.blk, HB7.out⟩) ?_
       refine fSxConvA8_82 ?_
       refine wpAnyG_ready (rs := [3]) (by kernel_rfl) (by simp) ?_
       refine AllReadyG.plain rfl rfl (fun K hK => ?_) AllReadyG.nil
       go_simp
       refine (ih h0 y yc w8.drew Hsz.out HI5.out.le HRd.out).mono ?_
       rintro e w11 ⟨xc, rfl, hx11, hb11⟩
       have HI6 := Yq (HI5.out.next (ofRD_mono _ _ _ _ _ _ _ _) hb11)
       have HX6 : Hid (Blk w11 g1 [.string (toB nm), .slice a1 n1 c1, .slice a2 n2 c2, .slice a3 n3 c3, .slice a4 n4 c4, .slice a5 n5 c5, .slice a6 n6 c6, .int .i64 li, .int .i64 co] ∧ Blk w11 gr zMs) := Yq ⟨HX5.out.1.below hb11 HX5.out.1.lt, HX5.out.2.below hb11 HX5.out.2.lt⟩
       have HB7b := Yq (HB7.out.below hb11 HB7.out.lt)
       have HXr := Yq (hx11.mono HI5.out.fresh); have HXl := Yq hx11.size; have HX1 := Yq hx11.one
       clear hx11 hb11
       refine hK.out _ _ (InvG.mk trivial ⟨HI6.out.blk, HB7b.out⟩) (fun _ => ?_)
       clear hK
       refine fSxConvA8_82 ?_
       refine wpAnyG_ready (rs := [4]) (by kernel_rfl) (by simp) ?_
       refine AllReadyG.plain rfl rfl (fun K hK => ?_) AllReadyG.nil
       refine wp_buildSlice1 31 63 _ rfl xc (.agg xc.toArray) (by go_simp) Tryz.underlying31 (by rw [HXl.out]; exact info2RM) (by rw [HXl.out]; decide) (by rw [HXl.out]; decide) rfl ?_
       refine hK.out _ _ (InvG.mk trivial ⟨(HI6.out.next (ofRD_mono _ _ _ _ _ _ _ _) ((Below.refl _ _).alloc (Nat.le_refl _) _)).blk, HB7b.out.alloc _⟩) (fun _ => ?_)
       clear hK
       refine fSxConvA8_82 ?_
       refine wpAnyG_ready (rs := [5]) (by kernel_rfl) (by simp) ?_
       refine AllReadyG.plain rfl rfl (fun K hK => ?_) AllReadyG.nil
       refine wp_append_own1 T_RM _ _ rfl xc (by go_simp) (show w11.ownsRow w6.heap.size 63 9 u3 es3.length es3.flatten from HI6.out.rows.own (rowCs 63 9 u3 es3) (by simp)) (by go_simp) HXl.out HX1.out (by have h1 := Hbd3.out; have h2 := HL.out; omega) HI6.out.lts.2.2 ?_
       intro u9 w9 ho9 hg9 hat9 hone9
       have HB9 := HI6.out.blk8 (r := rowCs 63 9 u3 es3) (by simp) hg9
       have HB79 : Blk w9 g7 yc := HB7b.out.grown hg9 (fun e => Hn7.out g7 e.symm rfl)
       refine hK.out _ _ (InvG.mk trivial ⟨HB9, HB79⟩) (fun _ => ?_)
       clear hK
       refine fSxConvA8_82 ?_
       refine wpAnyG_take0 (i := 6) (v := .pointer (some ⟨gm, 3, none⟩)) rfl (by kernel_rfl) (fun _ _ _ h => h) (.inl ⟨by rfl, fun w hw => by go_simp⟩) (InvG.mk trivial ⟨HB9, HB79⟩) ?_
       refine fSxConvA8_82 ?_
       refine wpAnyG_ready (rs := [7]) (by kernel_rfl) (by simp) ?_
       refine AllReadyG.plain rfl rfl (fun K hK => ?_) AllReadyG.nil
       refine wp_store_lay 31 _ _ rfl gm 3 u9 [u9] [.string (toB nm), u1, .slice a2 n2 c2, u3, (.slice none 0 0), u5, .slice a6 n6 c6, .int .i64 li, .int .i64 co] (by go_simp) (by go_simp) (one_cells hone9) HB9 info1RM (show 3 + 1 ≤ 9 by decide) (one1 hone9) ?_
       intro w10 hB10 hg10 hs10
       have H9 : Hid (Built h0 w6.heap.size gm w [.string (toB nm), u1, .slice a2 n2 c2, u9, (.slice none 0 0), u5, .slice a6 n6 c6, .int .i64 li, .int .i64 co] [rowOf 110 10 fC u1 fs, rowOf 112 2 rC u5 rs, rowCs 63 9 u9 (es3 ++ [xc]), rowCs 67 4 (.slice none 0 0) []] (ofRD (.slice a2 n2 c2) os (.slice a6 n6 c6) ns (ms.take (k + 1)) (es3 ++ [xc]) [] []) w10) := Yq (by
        rw [HT.out, rowCs_snoc]
        exact HI6.out.push (L := [rowOf 110 10 fC u1 fs, rowOf 112 2 rC u5 rs]) (M := [rowCs 67 4 (.slice none 0 0) []]) (r := rowCs 63 9 u3 es3) ho9 hg9 hat9 hB10 hg10 (fun h' hle => ⟨⟨HI6.out.rd.1.1.mono hle, HI6.out.rd.1.2.mono hle⟩, MsgsR.snoc (HXr.out.mono hle) (HI6.out.rd.2.1.mono hle), HI6.out.rd.2.2.mono hle⟩))
       have HX9 : Hid (Blk w10 g1 [.string (toB nm), .slice a1 n1 c1, .slice a2 n2 c2, .slice a3 n3 c3, .slice a4 n4 c4, .slice a5 n5 c5, .slice a6 n6 c6, .int .i64 li, .int .i64 co] ∧ Blk w10 gr zMs) := Yq ⟨HI6.out.other (r := rowCs 63 9 u3 es3) (by simp) HX6.out.1 Hgs.out.1 Hgs.out.2.2.1 hg9 hg10, HI6.out.other (r := rowCs 63 9 u3 es3) (by simp) HX6.out.2 Hgs.out.2.1 Hgs.out.2.2.2.1 hg9 hg10⟩
       clear ho9 hg9 hat9 hone9 HB9 HB79 hB10 hg10 hs10
       refine hK.out _ _ (InvG.past trivial (by kernel_rfl)) (fun _ => ?_)
       clear hK
       refine fSxConvA8_82 ?_
       refine wpAnyG_done (by kernel_rfl) ?_ _
       go_wp2_with fail
       go_roundw
       case rel => exact ⟨k + 1, u9, es3 ++ [xc], by omega, by go_num, H9, HX9, Yq (by rw [List.length_append, HL.out]; rfl)⟩
       case measure => simp [intOf]; omega
      ·obtain rfl : n3 = k := by omega
       have HI2 : Hid (Built h0 w6.heap.size gm w [.string (toB nm), u1, .slice a2 n2 c2, u3, (.slice none 0 0), u5, .slice a6 n6 c6, .int .i64 li, .int .i64 co] [rowOf 110 10 fC u1 fs, rowOf 112 2 rC u5 rs, rowCs 63 9 u3 es3, rowCs 67 4 (.slice none 0 0) []] (ofRD (.slice a2 n2 c2) os (.slice a6 n6 c6) ns ms es3 [] []) wr) := Yq (by
        have h1 := HI.out
        rw [List.take_of_length_le (by rw [← HR3.out.len, Hn3.out]; exact Nat.le_refl _)] at h1
        exact h1)
       clear HI
       obtain ⟨w22, hwr⟩ : ∃ z, z = wr := ⟨_, rfl⟩
       subst hwr
       have HI := HI2
       clear HI2
       have HL3 := HL
       clear hlt hkn
       have qs4 : w22.cell? ⟨g1, 4, none⟩ = some (.slice a4 n4 c4) := HX.out.1.cell (o := 4) rfl
       have hns4 : n4 ≤ 9223372036854775807 := by have := Hbd4.out; omega
       go_wp2_with fail
       clear qs4
       go_loopw [69] (fun iv wr => ∃ (k : Nat) (u4 : Value) (es4 : List (List Value)), k ≤ n4 ∧ iv = .int .i64 k ∧ Hid (Built h0 w6.heap.size gm w [.string (toB nm), u1, .slice a2 n2 c2, u3, u4, u5, .slice a6 n6 c6, .int .i64 li, .int .i64 co] [rowOf 110 10 fC u1 fs, rowOf 112 2 rC u5 rs, rowCs 63 9 u3 es3, rowCs 67 4 u4 es4] (ofRD (.slice a2 n2 c2) os (.slice a6 n6 c6) ns ms es3 (es.take k) es4) wr) ∧ Hid (Blk wr g1 [.string (toB nm), .slice a1 n1 c1, .slice a2 n2 c2, .slice a3 n3 c3, .slice a4 n4 c4, .slice a5 n5 c5, .slice a6 n6 c6, .int .i64 li, .int .i64 co] ∧ Blk wr gr zMs) ∧ Hid (es4.length = k)) (fun iv _ => n4 - (intOf iv).toNat)
       case atStart => exact ⟨0, .slice none 0 0, [], Nat.zero_le _, rfl, HI, HX, Yq rfl⟩
       case round =>
        obtain ⟨k, u4, es4, hkn, rfl, HI, HX, HL⟩ := hrel
        by_cases hlt : k < n4
        ·have hks : k < cs4.length := by rw [Hn4.out]; exact hlt
         have hkf : k < es.length := by rw [← HR4.out.len]; exact hks
         obtain ⟨b0, o0, hb0, hidx, hcell⟩ := FlatC.at (n := n4) (cap := c4) (a := a4) (HF4.out.mono HI.out.le) (by decide) (i := k) hks Tryz.underlying24 sizeSE
         have hrd := HR4.out.at hkf hks
         have HT : Hid (es.take (k + 1) = es.take k ++ [es[k]]) := Yq (List.take_succ_eq_append_getElem hkf)
         have hr : wr.rangeAt b0 o0 cs4[k] := hcell
         clear hcell
         generalize es[k] = y at *
         generalize cs4[k] = yc at *
         have HRd := Yq hrd; have HYl := Yq hrd.size; have HY1 := Yq hrd.one
         clear hrd
         go_upto_region 20 with (first
          | (refine wpList_load_seg rfl 71 _ rfl _ _ rfl _ _ hr Tryz.underlying71 rfl ?_ ?_; (· rw [HYl.out]; exact infoEn))
          | (refine wpList_alloc_lay rfl 71 rfl zEn zeroEn ?_; (intro w7 g7 hg7 hB7 hb7; clear hr))
          | (refine wpList_store_all rfl 71 _ _ rfl g7 yc rfl rfl zEn hB7 ?_ ?_ ?_ ?_; (· rw [HYl.out]; exact infoEn); (· exact HYl.out); (· exact HY1.out); (intro w8 hB8 hgr8; have hb8 := Below.grown hb7 hgr8 hb7.size (fun _ e => by cases e; exact hg7); clear hb7 hgr8 hB7)))
         have HI5 := Yq ((HI.out.next (ofRD_mono _ _ _ _ _ _ _ _) hb8).next (ofRD_mono _ _ _ _ _ _ _ _) (Below.refl _ _).drew)
         have HX5 : Hid (Blk w8.drew g1 [.string (toB nm), .slice a1 n1 c1, .slice a2 n2 c2, .slice a3 n3 c3, .slice a4 n4 c4, .slice a5 n5 c5, .slice a6 n6 c6, .int .i64 li, .int .i64 co] ∧ Blk w8.drew gr zMs) := Yq ⟨HX.out.1.below hb8.drew HX.out.1.lt, HX.out.2.below hb8.drew HX.out.2.lt⟩
         have HB7 : Hid (Blk w8.drew g7 yc) := Yq hB8
         have Hn7 : Hid (∀ j, u4.ownBlock = some j → j = g7 → False) := Yq (fun j hj e => by have h1 := ((HI.out.rows.own (rowCs 67 4 u4 es4) (by simp)).lt j hj).2; omega)
         clear hb8 hg7 hB8 hidx hb0
         go_wp2_with fail
         refine wp_region_G 7 (fun _ => True) (fun w' => Blk w' gm [.string (toB nm), u1, .slice a2 n2 c2, u3, u4, u5, .slice a6 n6 c6, .int .i64 li, .int .i64 co] ∧ Blk w' g7 yc) (by kernel_rfl) trivial ⟨HI5.out.blk, HB7.out⟩ (fun _ => ?_)
         refine wpAnyG_take0 (i := 0) (v := .pointer (some ⟨gm, 4, none⟩)) rfl (by kernel_rfl) (fun _ _ _ h => h) (.inl ⟨by rfl, fun w hw => by go_simp⟩) (InvG.mk trivial ⟨HI5.out.blk, HB7.out⟩) ?_
         refine fSxConvA8_82 ?_
         refine wpAnyG_take (i := 1) (v := u4) rfl (by kernel_rfl) (fun _ _ _ h => h) (.inl ⟨by rfl, fun w hw => by have hc := hw.2.1.cell (o := 4) (u := u4) rfl; clear hw; go_simp⟩) (InvG.mk trivial ⟨HI5.out.blk, HB7.out⟩) ?_
         refine fSxConvA8_82 ?_
         refine wpAnyG_take (i := 2) (v := .agg yc.toArray) rfl (by kernel_rfl) (fun _ _ _ h => h) (yieldsIf_load_mid (by rfl) 71 _ rfl g7 0 (by go_simp) yc _ (fun w h => h.2.2.whole) Tryz.underlying71 rfl (by rw [HYl.out]; exact infoEn)) (InvG.mk trivial ⟨HI5.out.blk, HB7.out⟩) ?_
         refine fSxConvA8_82 ?_
         refine wpAnyG_ready (rs := [3]) (by kernel_rfl) (by simp) ?_
         refine AllReadyG.plain rfl rfl (fun K hK => ?_) AllReadyG.nil
         go_simp
         refine (ofEnum_any h0 y yc w8.drew HI5.out.le HRd.out).mono ?_
         rintro e w11 ⟨xc, rfl, hx11, hb11⟩
         have HI6 := Yq (HI5.out.next (ofRD_mono _ _ _ _ _ _ _ _) hb11)
         have HX6 : Hid (Blk w11 g1 [.string (toB nm), .slice a1 n1 c1, .slice a2 n2 c2, .slice a3 n3 c3, .slice a4 n4 c4, .slice a5 n5 c5, .slice a6 n6 c6, .int .i64 li, .int .i64 co] ∧ Blk w11 gr zMs) := Yq ⟨HX5.out.1.below hb11 HX5.out.1.lt, HX5.out.2.below hb11 HX5.out.2.lt⟩
         have HB7b := Yq (HB7.out.below hb11 HB7.out.lt)
         have HXr := Yq (hx11.mono HI5.out.fresh); have HXl := Yq hx11.size; have HX1 := Yq hx11.one
         clear hx11 hb11
         refine hK.out _ _ (InvG.mk trivial ⟨HI6.out.blk, HB7b.out⟩) (fun _ => ?_)
         clear hK
         refine fSxConvA8_82 ?_
         refine wpAnyG_ready (rs := [4]) (by kernel_rfl) (by simp) ?_
         refine AllReadyG.plain rfl rfl (fun K hK => ?_) AllReadyG.nil
         refine wp_buildSlice1 32 67 _ rfl xc (.agg xc.toArray) (by go_simp) Tryz.underlying32 (by rw [HXl.out]; exact info2RE) (by rw [HXl.out]; decide) (by rw [HXl.out]; decide) rfl ?_
         refine hK.out _ _ (InvG.mk trivial ⟨(HI6.out.next (ofRD_mono _ _ _ _ _ _ _ _) ((Below.refl _ _).alloc (Nat.le_refl _) _)).blk, HB7b.out.alloc _⟩) (fun _ => ?_)
         clear hK
         refine fSxConvA8_82 ?_
         refine wpAnyG_ready (rs := [5]) (by kernel_rfl) (by simp) ?_
         refine AllReadyG.plain rfl rfl (fun K hK => ?_) AllReadyG.nil
         refine wp_append_own1 T_RE _ _ rfl xc (by go_simp) (show w11.ownsRow w6.heap.size 67 4 u4 es4.length es4.flatten from HI6.out.rows.own (rowCs 67 4 u4 es4) (by simp)) (by go_simp) HXl.out HX1.out (by have h1 := Hbd4.out; have h2 := HL.out; omega) HI6.out.lts.2.2 ?_
         intro u9 w9 ho9 hg9 hat9 hone9
         have HB9 := HI6.out.blk8 (r := rowCs 67 4 u4 es4) (by simp) hg9
         have HB79 : Blk w9 g7 yc := HB7b.out.grown hg9 (fun e => Hn7.out g7 e.symm rfl)
         refine hK.out _ _ (InvG.mk trivial ⟨HB9, HB79⟩) (fun _ => ?_)
         clear hK
         refine fSxConvA8_82 ?_
         refine wpAnyG_take0 (i := 6) (v := .pointer (some ⟨gm, 4, none⟩)) rfl (by kernel_rfl) (fun _ _ _ h => h) (.inl ⟨by rfl, fun w hw => by go_simp⟩) (InvG.mk trivial ⟨HB9, HB79⟩) ?_
         refine fSxConvA8_82 ?_
         refine wpAnyG_ready (rs := [7]) (by kernel_rfl) (by simp) ?_
         refine AllReadyG.plain rfl rfl (fun K hK => ?_) AllReadyG.nil
         refine wp_store_lay 32 _ _ rfl gm 4 u9 [u9] [.string (toB nm), u1, .slice a2 n2 c2, u3, u4, u5, .slice a6 n6 c6, .int .i64 li, .int .i64 co] (by go_simp) (by go_simp) (one_cells hone9) HB9 info1RE (show 4 + 1 ≤ 9 by decide) (one1 hone9) ?_
         intro w10 hB10 hg10 hs10
         have H9 : Hid (Built h0 w6.heap.size gm w [.string (toB nm), u1, .slice a2 n2 c2, u3, u9, u5, .slice a6 n6 c6, .int .i64 li, .int .i64 co] [rowOf 110 10 fC u1 fs, rowOf 112 2 rC u5 rs, rowCs 63 9 u3 es3, rowCs 67 4 u9 (es4 ++ [xc])] (ofRD (.slice a2 n2 c2) os (.slice a6 n6 c6) ns ms es3 (es.take (k + 1)) (es4 ++ [xc])) w10) := Yq (by
          rw [HT.out, rowCs_snoc]
          exact HI6.out.push (L := [rowOf 110 10 fC u1 fs, rowOf 112 2 rC u5 rs, rowCs 63 9 u3 es3]) (M := []) (r := rowCs 67 4 u4 es4) ho9 hg9 hat9 hB10 hg10 (fun h' hle => ⟨⟨HI6.out.rd.1.1.mono hle, HI6.out.rd.1.2.mono hle⟩, HI6.out.rd.2.1.mono hle, EnsR.snoc (HXr.out.mono hle) (HI6.out.rd.2.2.mono hle)⟩))
         have HX9 : Hid (Blk w10 g1 [.string (toB nm), .slice a1 n1 c1, .slice a2 n2 c2, .slice a3 n3 c3, .slice a4 n4 c4, .slice a5 n5 c5, .slice a6 n6 c6, .int .i64 li, .int .i64 co] ∧ Blk w10 gr zMs) := Yq ⟨HI6.out.other (r := rowCs 67 4 u4 es4) (by simp) HX6.out.1 Hgs.out.1 Hgs.out.2.2.1 hg9 hg10, HI6.out.other (r := rowCs 67 4 u4 es4) (by simp) HX6.out.2 Hgs.out.2.1 Hgs.out.2.2.2.1 hg9 hg10⟩
         clear ho9 hg9 hat9 hone9 HB9 HB79 hB10 hg10 hs10
         refine hK.out _ _ (InvG.past trivial (by kernel_rfl)) (fun _ => ?_)
         clear hK
         refine fSxConvA8_82 ?_
         refine wpAnyG_done (by kernel_rfl) ?_ _
         go_wp2_with fail
         go_roundw
         case rel => exact ⟨k + 1, u9, es4 ++ [xc], by omega, by go_num, H9, HX9, Yq (by rw [List.length_append, HL.out]; rfl)⟩
         case measure => simp [intOf]; omega
        ·obtain rfl : n4 = k := by omega
         have HI2 : Hid (Built h0 w6.heap.size gm w [.string (toB nm), u1, .slice a2 n2 c2, u3, u4, u5, .slice a6 n6 c6, .int .i64 li, .int .i64 co] [rowOf 110 10 fC u1 fs, rowOf 112 2 rC u5 rs, rowCs 63 9 u3 es3, rowCs 67 4 u4 es4] (ofRD (.slice a2 n2 c2) os (.slice a6 n6 c6) ns ms es3 es es4) wr) := Yq (by
          have h1 := HI.out
          rw [List.take_of_length_le (by rw [← HR4.out.len, Hn4.out]; exact Nat.le_refl _)] at h1
          exact h1)
         clear HI
         obtain ⟨w23, hwr⟩ : ∃ z, z = wr := ⟨_, rfl⟩
         subst hwr
         have HI := HI2
         clear HI2
         have HL4 := HL
         clear hlt hkn
         have hWm := HI.out.blk.whole
         have HBr := HX.out.2
         go_wp2_with (first
          | (refine wpList_load_seg rfl 63 _ rfl _ _ rfl _ _ hWm Tryz.underlying63 rfl infoRM ?_)
          | (refine wpList_store_all rfl 63 _ _ rfl gr [.string (toB nm), u1, .slice a2 n2 c2, u3, u4, u5, .slice a6 n6 c6, .int .i64 li, .int .i64 co] rfl rfl zMs HBr infoRM rfl ?_ ?_; (· intro u hu; simp only [List.mem_cons, List.not_mem_nil, or_false] at hu; rcases hu with rfl | rfl | rfl | rfl | rfl | rfl | rfl | rfl | rfl <;> first | rfl | exact own_one (HI.out.rows.own _ (by simp only [List.mem_cons]; exact .inl rfl)) | exact own_one (HI.out.rows.own _ (by simp only [List.mem_cons]; exact .inr (.inl rfl))) | exact own_one (HI.out.rows.own _ (by simp only [List.mem_cons]; exact .inr (.inr (.inl rfl)))) | exact own_one (HI.out.rows.own _ (by simp only [List.mem_cons]; exact .inr (.inr (.inr (.inl rfl)))))); (intro w30 hB30 hgr30)))
         obtain ⟨hrd, hrows, hbel, _⟩ := HI.out.done (ofRD_mono _ _ _ _ _ _ _ _) hgr30 Hgs.out.2.2.2.2 Hgs.out.2.1
         refine bodyPost_ret (v := .agg [.string (toB nm), u1, .slice a2 n2 c2, u3, u4, u5, .slice a6 n6 c6, .int .i64 li, .int .i64 co].toArray) ?_ rfl ⟨_, rfl, ?_, hbel⟩
         ·exact results_blk (p := 2) (ty := 63) rfl _ _ gr [.string (toB nm), u1, .slice a2 n2 c2, u3, u4, u5, .slice a6 n6 c6, .int .i64 li, .int .i64 co] rfl hB30 _ Tryz.underlying63 rfl infoRM
         ·rw [MsgR]
          exact ⟨_, _, _, _, _, _, _, _, rfl, ⟨⟨FlatV.of_ownsJ (hrows.own (rowOf 110 10 fC u1 fs) (by simp)) (by have := HI.out.lts; omega), by rw [Hn1.out]; exact Hbd1.out⟩, hrd.1.1, ⟨FlatC.of_ownsJ (hrows.own (rowCs 63 9 u3 es3) (by simp)) (by have := HI.out.lts; omega) hrd.2.1.sizes, by rw [HL3.out]; exact Hbd3.out⟩, ⟨FlatC.of_ownsJ (hrows.own (rowCs 67 4 u4 es4) (by simp)) (by have := HI.out.lts; omega) hrd.2.2.sizes, by rw [HL4.out]; exact Hbd4.out⟩, ⟨FlatV.of_ownsJ (hrows.own (rowOf 112 2 rC u5 rs) (by simp)) (by have := HI.out.lts; omega), by rw [Hn5.out]; exact Hbd5.out⟩, hrd.1.2⟩, hrd.2.1, hrd.2.2⟩
theorem ofMessage_at : ∀ N, ofMessageAt N
 | 0 => fun h0 x cs w hsz _ _ => absurd hsz (Nat.not_lt_zero _)
 | N + 1 => ofMessage_succ N (ofMessage_at N)
theorem ofMessage_any (h0 : Frag) (x : Sx.Msg) (cs : List Value) (w : World) (hle : FLe h0 (frag w)) (hx : MsgR h0 x cs) :
  Calls Tryz.prog 18 #[.agg cs.toArray] w (TreePost MsgR h0 w x) := ofMessage_at _ h0 x cs w (Nat.lt_succ_self _) hle hx
set_option maxHeartbeats 16000000 in
set_option maxRecDepth 100000 in
theorem Of_any (h0 : Frag) (x : Sx.Fil) (cs : List Value) (w : World) (hle : FLe h0 (frag w)) (hx : FilR h0 x cs) :
  Calls Tryz.prog 9 #[.agg cs.toArray] w (TreePost FilR h0 w x) := by
 obtain ⟨nm, ms, es⟩ := x
 obtain ⟨v1, v2, cs1, cs2, hcs, ⟨q1, q2⟩, hr1, hr2⟩ := hx
 dsimp only at hcs hr1 hr2
 obtain ⟨a1, c1, e1, _, _, _⟩ := q1.1.len
 obtain ⟨a2, c2, e2, _, _, _⟩ := q2.1.len
 subst e1 e2 hcs
 have Hbd1 := Yq q1.2
 have Hbd2 := Yq q2.2
 have HF1 := Yq q1.1
 have HF2 := Yq q2.1
 have HR1 := Yq hr1; have HR2 := Yq hr2
 obtain ⟨n1, hn1⟩ : ∃ z, z = cs1.length := ⟨_, rfl⟩
 obtain ⟨n2, hn2⟩ : ∃ z, z = cs2.length := ⟨_, rfl⟩
 rw [← hn1] at Hbd1 HF1
 rw [← hn2] at Hbd2 HF2
 rw [← hn1, ← hn2]
 have Hn1 := Yq hn1.symm
 have Hn2 := Yq hn2.symm
 have Hle := Yq hle
 have hbd := rFil_build
 clear hle hn1 hn2 q1 q2 hr1 hr2
 go_enter Tryz.func9, Tryz.ntmps9
 go_upto_region 1 with (first
  | (refine wpList_box_lay rfl 26 _ rfl [.string (toB nm), .slice a1 n1 c1, .slice a2 n2 c2] rfl ?_; (intro w1 g1 hg1 hB1 hb1))
  | (refine wpList_alloc_lay rfl 34 rfl zFl zeroRFl ?_; (intro w2 gr hgr hBr hb2)))
 have HB12 := Yq (hB1.below hb2 hB1.lt); have HBr2 := Yq hBr
 have Hb2 : Hid (Below w.heap.size w w2) := Yq (hb1.trans (hb2.mono hb1.size))
 have Hg12 : Hid (w.heap.size ≤ gr) := Yq (Nat.le_trans hb1.size hgr)
 clear hB1 hb1 hb2 hBr hgr hg1
 have z0 : w2.cell? ⟨g1, 0, none⟩ = some (.string (toB nm)) := HB12.out.cell (o := 0) rfl
 go_upto_region 2 with (first
  | (refine wpList_alloc_lay rfl 34 rfl zFl zeroRFl ?_; (intro w5 gm hgm hBv hb5))
  | (refine wpList_store_all rfl 34 _ _ rfl gm [.string (toB nm), (.slice none 0 0), (.slice none 0 0)] rfl rfl zFl hBv infoRFl rfl ?_ ?_; (· intro u hu; simp only [List.mem_cons, List.not_mem_nil, or_false] at hu; rcases hu with rfl | rfl | rfl <;> rfl); (intro w6 hB6 hgr6; have hb6 := Below.grown hb5 hgr6 hb5.size (fun _ e => by cases e; exact hgm); clear hb5 hgr6 hBv)))
 have HX : Hid (Blk w6 g1 [.string (toB nm), .slice a1 n1 c1, .slice a2 n2 c2] ∧ Blk w6 gr zFl) := Yq ⟨HB12.out.below hb6 HB12.out.lt, HBr2.out.below hb6 HBr2.out.lt⟩
 have Hgs : Hid (g1 < w6.heap.size ∧ gr < w6.heap.size ∧ g1 ≠ gm ∧ gr ≠ gm ∧ w.heap.size ≤ gr) := Yq ⟨HX.out.1.lt, HX.out.2.lt, fun e => by have := HB12.out.lt; omega, fun e => by have := HBr2.out.lt; omega, Hg12.out⟩
 have hdom := frag_dom Hle.out
 have HI : Hid (Built h0 w6.heap.size gm w [.string (toB nm), (.slice none 0 0), (.slice none 0 0)] [rowCs 63 9 (.slice none 0 0) [], rowCs 67 4 (.slice none 0 0) []] (filRD [] [] [] []) w6) := Yq ⟨hB6, Rows.nil _ _ _ (fun r hr => by simp only [List.mem_cons, List.not_mem_nil, or_false] at hr; rcases hr with rfl | rfl <;> exact ⟨rfl, rfl, rfl⟩), ⟨by rw [MsgsR], by rw [EnsR]⟩, Hle.out.trans ((below_le Hb2.out).trans (below_le hb6)), Hb2.out.trans (hb6.mono Hb2.out.size), ⟨Nat.le_trans Hb2.out.size hgm, hB6.lt, Nat.le_refl _⟩, hdom⟩
 clear hB6 hgm hb6 hdom z0
 have qs1 : w6.cell? ⟨g1, 1, none⟩ = some (.slice a1 n1 c1) := HX.out.1.cell (o := 1) rfl
 have hns1 : n1 ≤ 9223372036854775807 := by have := Hbd1.out; omega
 go_wp2_with fail
 clear qs1
 go_loopw [14] (fun iv wr => ∃ (k : Nat) (u1 : Value) (es1 : List (List Value)), k ≤ n1 ∧ iv = .int .i64 k ∧ Hid (Built h0 w6.heap.size gm w [.string (toB nm), u1, (.slice none 0 0)] [rowCs 63 9 u1 es1, rowCs 67 4 (.slice none 0 0) []] (filRD (ms.take k) es1 [] []) wr) ∧ Hid (Blk wr g1 [.string (toB nm), .slice a1 n1 c1, .slice a2 n2 c2] ∧ Blk wr gr zFl) ∧ Hid (es1.length = k)) (fun iv _ => n1 - (intOf iv).toNat)
 case atStart => exact ⟨0, .slice none 0 0, [], Nat.zero_le _, rfl, HI, HX, Yq rfl⟩
 case round =>
  obtain ⟨k, u1, es1, hkn, rfl, HI, HX, HL⟩ := hrel
  by_cases hlt : k < n1
  ·have hks : k < cs1.length := by rw [Hn1.out]; exact hlt
   have hkf : k < ms.length := by rw [← HR1.out.len]; exact hks
   obtain ⟨b0, o0, hb0, hidx, hcell⟩ := FlatC.at (n := n1) (cap := c1) (a := a1) (HF1.out.mono HI.out.le) (by decide) (i := k) hks Tryz.underlying23 sizeSM
   have hrd := HR1.out.at hkf hks
   have HT : Hid (ms.take (k + 1) = ms.take k ++ [ms[k]]) := Yq (List.take_succ_eq_append_getElem hkf)
   have hr : wr.rangeAt b0 o0 cs1[k] := hcell
   clear hcell
   generalize ms[k] = y at *
   generalize cs1[k] = yc at *
   have HRd := Yq hrd; have HYl := Yq hrd.size; have HY1 := Yq hrd.one
   clear hrd
   go_upto_region 5 with (first
    | (refine wpList_load_seg rfl 45 _ rfl _ _ rfl _ _ hr Tryz.underlying45 rfl ?_ ?_; (· rw [HYl.out]; exact infoMs))
    | (refine wpList_alloc_lay rfl 45 rfl zMs zeroMs ?_; (intro w7 g7 hg7 hB7 hb7; clear hr))
    | (refine wpList_store_all rfl 45 _ _ rfl g7 yc rfl rfl zMs hB7 ?_ ?_ ?_ ?_; (· rw [HYl.out]; exact infoMs); (· exact HYl.out); (· exact HY1.out); (intro w8 hB8 hgr8; have hb8 := Below.grown hb7 hgr8 hb7.size (fun _ e => by cases e; exact hg7); clear hb7 hgr8 hB7)))
   have HI5 := Yq ((HI.out.next (filRD_mono _ _ _ _) hb8).next (filRD_mono _ _ _ _) (Below.refl _ _).drew)
   have HX5 : Hid (Blk w8.drew g1 [.string (toB nm), .slice a1 n1 c1, .slice a2 n2 c2] ∧ Blk w8.drew gr zFl) := Yq ⟨HX.out.1.below hb8.drew HX.out.1.lt, HX.out.2.below hb8.drew HX.out.2.lt⟩
   have HB7 : Hid (Blk w8.drew g7 yc) := Yq hB8
   have Hn7 : Hid (∀ j, u1.ownBlock = some j → j = g7 → False) := Yq (fun j hj e => by have h1 := ((HI.out.rows.own (rowCs 63 9 u1 es1) (by simp)).lt j hj).2; omega)
   clear hb8 hg7 hB8 hidx hb0
   go_wp2_with fail
   refine wp_region_G 7 (fun _ => True) (fun w' => Blk w' gm [.string (toB nm), u1, (.slice none 0 0)] ∧ Blk w' g7 yc) (by kernel_rfl) trivial ⟨HI5.out.blk, HB7.out⟩ (fun _ => ?_)
   refine wpAnyG_take0 (i := 0) (v := .pointer (some ⟨gm, 1, none⟩)) rfl (by kernel_rfl) (fun _ _ _ h => h) (.inl ⟨by rfl, fun w hw => by go_simp⟩) (InvG.mk trivial ⟨HI5.out.blk, HB7.out⟩) ?_
   refine fSxConvA8_42 ?_
   refine wpAnyG_take (i := 1) (v := u1) rfl (by kernel_rfl) (fun _ _ _ h => h) (.inl ⟨by rfl, fun w hw => by have hc := hw.2.1.cell (o := 1) (u := u1) rfl; clear hw; go_simp⟩) (InvG.mk trivial ⟨HI5.out.blk, HB7.out⟩) ?_
   refine fSxConvA8_42 ?_
   refine wpAnyG_take (i := 2) (v := .agg yc.toArray) rfl (by kernel_rfl) (fun _ _ _ h => h) (yieldsIf_load_mid (by rfl) 45 _ rfl g7 0 (by go_simp) yc _ (fun w h => h.2.2.whole) Tryz.underlying45 rfl (by rw [HYl.out]; exact infoMs)) (InvG.mk trivial ⟨HI5.out.blk, HB7.out⟩) ?_
   refine fSxConvA8_42 ?_
   refine wpAnyG_ready (rs := [3]) (by kernel_rfl) (by simp) ?_
   refine AllReadyG.plain rfl rfl (fun K hK => ?_) AllReadyG.nil
   go_simp
   refine (ofMessage_any h0 y yc w8.drew HI5.out.le HRd.out).mono ?_
   rintro e w11 ⟨xc, rfl, hx11, hb11⟩
   have HI6 := Yq (HI5.out.next (filRD_mono _ _ _ _) hb11)
   have HX6 : Hid (Blk w11 g1 [.string (toB nm), .slice a1 n1 c1, .slice a2 n2 c2] ∧ Blk w11 gr zFl) := Yq ⟨HX5.out.1.below hb11 HX5.out.1.lt, HX5.out.2.below hb11 HX5.out.2.lt⟩
   have HB7b := Yq (HB7.out.below hb11 HB7.out.lt)
   have HXr := Yq (hx11.mono HI5.out.fresh); have HXl := Yq hx11.size; have HX1 := Yq hx11.one
   clear hx11 hb11
   refine hK.out _ _ (InvG.mk trivial ⟨HI6.out.blk, HB7b.out⟩) (fun _ => ?_)
   clear hK
   refine fSxConvA8_42 ?_
   refine wpAnyG_ready (rs := [4]) (by kernel_rfl) (by simp) ?_
   refine AllReadyG.plain rfl rfl (fun K hK => ?_) AllReadyG.nil
   refine wp_buildSlice1 31 63 _ rfl xc (.agg xc.toArray) (by go_simp) Tryz.underlying31 (by rw [HXl.out]; exact info2RM) (by rw [HXl.out]; decide) (by rw [HXl.out]; decide) rfl ?_
   refine hK.out _ _ (InvG.mk trivial ⟨(HI6.out.next (filRD_mono _ _ _ _) ((Below.refl _ _).alloc (Nat.le_refl _) _)).blk, HB7b.out.alloc _⟩) (fun _ => ?_)
   clear hK
   refine fSxConvA8_42 ?_
   refine wpAnyG_ready (rs := [5]) (by kernel_rfl) (by simp) ?_
   refine AllReadyG.plain rfl rfl (fun K hK => ?_) AllReadyG.nil
   refine wp_append_own1 T_RM _ _ rfl xc (by go_simp) (show w11.ownsRow w6.heap.size 63 9 u1 es1.length es1.flatten from HI6.out.rows.own (rowCs 63 9 u1 es1) (by simp)) (by go_simp) HXl.out HX1.out (by have h1 := Hbd1.out; have h2 := HL.out; omega) HI6.out.lts.2.2 ?_
   intro u9 w9 ho9 hg9 hat9 hone9
   have HB9 := HI6.out.blk8 (r := rowCs 63 9 u1 es1) (by simp) hg9
   have HB79 : Blk w9 g7 yc := HB7b.out.grown hg9 (fun e => Hn7.out g7 e.symm rfl)
   refine hK.out _ _ (InvG.mk trivial ⟨HB9, HB79⟩) (fun _ => ?_)
   clear hK
   refine fSxConvA8_42 ?_
   refine wpAnyG_take0 (i := 6) (v := .pointer (some ⟨gm, 1, none⟩)) rfl (by kernel_rfl) (fun _ _ _ h => h) (.inl ⟨by rfl, fun w hw => by go_simp⟩) (InvG.mk trivial ⟨HB9, HB79⟩) ?_
   refine fSxConvA8_42 ?_
   refine wpAnyG_ready (rs := [7]) (by kernel_rfl) (by simp) ?_
   refine AllReadyG.plain rfl rfl (fun K hK => ?_) AllReadyG.nil
   refine wp_store_lay 31 _ _ rfl gm 1 u9 [u9] [.string (toB nm), u1, (.slice none 0 0)] (by go_simp) (by go_simp) (one_cells hone9) HB9 info1RM (show 1 + 1 ≤ 3 by decide) (one1 hone9) ?_
   intro w10 hB10 hg10 hs10
   have H9 : Hid (Built h0 w6.heap.size gm w [.string (toB nm), u9, (.slice none 0 0)] [rowCs 63 9 u9 (es1 ++ [xc]), rowCs 67 4 (.slice none 0 0) []] (filRD (ms.take (k + 1)) (es1 ++ [xc]) [] []) w10) := Yq (by
    rw [HT.out, rowCs_snoc]
    exact HI6.out.push (L := []) (M := [rowCs 67 4 (.slice none 0 0) []]) (r := rowCs 63 9 u1 es1) ho9 hg9 hat9 hB10 hg10 (fun h' hle => ⟨MsgsR.snoc (HXr.out.mono hle) (HI6.out.rd.1.mono hle), HI6.out.rd.2.mono hle⟩))
   have HX9 : Hid (Blk w10 g1 [.string (toB nm), .slice a1 n1 c1, .slice a2 n2 c2] ∧ Blk w10 gr zFl) := Yq ⟨HI6.out.other (r := rowCs 63 9 u1 es1) (by simp) HX6.out.1 Hgs.out.1 Hgs.out.2.2.1 hg9 hg10, HI6.out.other (r := rowCs 63 9 u1 es1) (by simp) HX6.out.2 Hgs.out.2.1 Hgs.out.2.2.2.1 hg9 hg10⟩
   clear ho9 hg9 hat9 hone9 HB9 HB79 hB10 hg10 hs10
   refine hK.out _ _ (InvG.past trivial (by kernel_rfl)) (fun _ => ?_)
   clear hK
   refine fSxConvA8_42 ?_
   refine wpAnyG_done (by kernel_rfl) ?_ _
   go_wp2_with fail
   go_roundw
   case rel => exact ⟨k + 1, u9, es1 ++ [xc], by omega, by go_num, H9, HX9, Yq (by rw [List.length_append, HL.out]; rfl)⟩
   case measure => simp [intOf]; omega
  ·obtain rfl : n1 = k := by omega
   have HI2 : Hid (Built h0 w6.heap.size gm w [.string (toB nm), u1, (.slice none 0 0)] [rowCs 63 9 u1 es1, rowCs 67 4 (.slice none 0 0) []] (filRD ms es1 [] []) wr) := Yq (by
    have h1 := HI.out
    rw [List.take_of_length_le (by rw [← HR1.out.len, Hn1.out]; exact Nat.le_refl _)] at h1
    exact h1)
   clear HI
   obtain ⟨w20, hwr⟩ : ∃ z, z = wr := ⟨_, rfl⟩
   subst hwr
   have HI := HI2
   clear HI2
   have HL1 := HL
   clear hlt hkn
   have qs2 : w20.cell? ⟨g1, 2, none⟩ = some (.slice a2 n2 c2) := HX.out.1.cell (o := 2) rfl
   have hns2 : n2 ≤ 9223372036854775807 := by have := Hbd2.out; omega
   go_wp2_with fail
   clear qs2
   go_loopw [29] (fun iv wr => ∃ (k : Nat) (u2 : Value) (es2 : List (List Value)), k ≤ n2 ∧ iv = .int .i64 k ∧ Hid (Built h0 w6.heap.size gm w [.string (toB nm), u1, u2] [rowCs 63 9 u1 es1, rowCs 67 4 u2 es2] (filRD ms es1 (es.take k) es2) wr) ∧ Hid (Blk wr g1 [.string (toB nm), .slice a1 n1 c1, .slice a2 n2 c2] ∧ Blk wr gr zFl) ∧ Hid (es2.length = k)) (fun iv _ => n2 - (intOf iv).toNat)
   case atStart => exact ⟨0, .slice none 0 0, [], Nat.zero_le _, rfl, HI, HX, Yq rfl⟩
   case round =>
    obtain ⟨k, u2, es2, hkn, rfl, HI, HX, HL⟩ := hrel
    by_cases hlt : k < n2
    ·have hks : k < cs2.length := by rw [Hn2.out]; exact hlt
     have hkf : k < es.length := by rw [← HR2.out.len]; exact hks
     obtain ⟨b0, o0, hb0, hidx, hcell⟩ := FlatC.at (n := n2) (cap := c2) (a := a2) (HF2.out.mono HI.out.le) (by decide) (i := k) hks Tryz.underlying24 sizeSE
     have hrd := HR2.out.at hkf hks
     have HT : Hid (es.take (k + 1) = es.take k ++ [es[k]]) := Yq (List.take_succ_eq_append_getElem hkf)
     have hr : wr.rangeAt b0 o0 cs2[k] := hcell
     clear hcell
     generalize es[k] = y at *
     generalize cs2[k] = yc at *
     have HRd := Yq hrd; have HYl := Yq hrd.size; have HY1 := Yq hrd.one
     clear hrd
     go_upto_region 10 with (first
      | (refine wpList_load_seg rfl 71 _ rfl _ _ rfl _ _ hr Tryz.underlying71 rfl ?_ ?_; (· rw [HYl.out]; exact infoEn))
      | (refine wpList_alloc_lay rfl 71 rfl zEn zeroEn ?_; (intro w7 g7 hg7 hB7 hb7; clear hr))
      | (refine wpList_store_all rfl 71 _ _ rfl g7 yc rfl rfl zEn hB7 ?_ ?_ ?_ ?_; (· rw [HYl.out]; exact infoEn); (· exact HYl.out); (· exact HY1.out); (intro w8 hB8 hgr8; have hb8 := Below.grown hb7 hgr8 hb7.size (fun _ e => by cases e; exact hg7); clear hb7 hgr8 hB7)))
     have HI5 := Yq ((HI.out.next (filRD_mono _ _ _ _) hb8).next (filRD_mono _ _ _ _) (Below.refl _ _).drew)
     have HX5 : Hid (Blk w8.drew g1 [.string (toB nm), .slice a1 n1 c1, .slice a2 n2 c2] ∧ Blk w8.drew gr zFl) := Yq ⟨HX.out.1.below hb8.drew HX.out.1.lt, HX.out.2.below hb8.drew HX.out.2.lt⟩
     have HB7 : Hid (Blk w8.drew g7 yc) := Yq hB8
     have Hn7 : Hid (∀ j, u2.ownBlock = some j → j = g7 → False) := Yq (fun j hj e => by have h1 := ((HI.out.rows.own (rowCs 67 4 u2 es2) (by simp)).lt j hj).2; omega)
     clear hb8 hg7 hB8 hidx hb0
     go_wp2_with fail
     refine wp_region_G 7 (fun _ => True) (fun w' => Blk w' gm [.string (toB nm), u1, u2] ∧ Blk w' g7 yc) (by kernel_rfl) trivial ⟨HI5.out.blk, HB7.out⟩ (fun _ => ?_)
     refine wpAnyG_take0 (i := 0) (v := .pointer (some ⟨gm, 2, none⟩)) rfl (by kernel_rfl) (fun _ _ _ h => h) (.inl ⟨by rfl, fun w hw => by go_simp⟩) (InvG.mk trivial ⟨HI5.out.blk, HB7.out⟩) ?_
     refine fSxConvA8_42 ?_
     refine wpAnyG_take (i := 1) (v := u2) rfl (by kernel_rfl) (fun _ _ _ h => h) (.inl ⟨by rfl, fun w hw => by have hc := hw.2.1.cell (o := 2) (u := u2) rfl; clear hw; go_simp⟩) (InvG.mk trivial ⟨HI5.out.blk, HB7.out⟩) ?_
     refine fSxConvA8_42 ?_
     refine wpAnyG_take (i := 2) (v := .agg yc.toArray) rfl (by kernel_rfl) (fun _ _ _ h => h) (yieldsIf_load_mid (by rfl) 71 _ rfl g7 0 (by go_simp) yc _ (fun w h => h.2.2.whole) Tryz.underlying71 rfl (by rw [HYl.out]; exact infoEn)) (InvG.mk trivial ⟨HI5.out.blk, HB7.out⟩) ?_
     refine fSxConvA8_42 ?_
     refine wpAnyG_ready (rs := [3]) (by kernel_rfl) (by simp) ?_
     refine AllReadyG.plain rfl rfl (fun K hK => ?_) AllReadyG.nil
     go_simp
     refine (ofEnum_any h0 y yc w8.drew HI5.out.le HRd.out).mono ?_
     rintro e w11 ⟨xc, rfl, hx11, hb11⟩
     have HI6 := Yq (HI5.out.next (filRD_mono _ _ _ _) hb11)
     have HX6 : Hid (Blk w11 g1 [.string (toB nm), .slice a1 n1 c1, .slice a2 n2 c2] ∧ Blk w11 gr zFl) := Yq ⟨HX5.out.1.below hb11 HX5.out.1.lt, HX5.out.2.below hb11 HX5.out.2.lt⟩
     have HB7b := Yq (HB7.out.below hb11 HB7.out.lt)
     have HXr := Yq (hx11.mono HI5.out.fresh); have HXl := Yq hx11.size; have HX1 := Yq hx11.one
     clear hx11 hb11
     refine hK.out _ _ (InvG.mk trivial ⟨HI6.out.blk, HB7b.out⟩) (fun _ => ?_)
     clear hK
     refine fSxConvA8_42 ?_
     refine wpAnyG_ready (rs := [4]) (by kernel_rfl) (by simp) ?_
     refine AllReadyG.plain rfl rfl (fun K hK => ?_) AllReadyG.nil
     refine wp_buildSlice1 32 67 _ rfl xc (.agg xc.toArray) (by go_simp) Tryz.underlying32 (by rw [HXl.out]; exact info2RE) (by rw [HXl.out]; decide) (by rw [HXl.out]; decide) rfl ?_
     refine hK.out _ _ (InvG.mk trivial ⟨(HI6.out.next (filRD_mono _ _ _ _) ((Below.refl _ _).alloc (Nat.le_refl _) _)).blk, HB7b.out.alloc _⟩) (fun _ => ?_)
     clear hK
     refine fSxConvA8_42 ?_
     refine wpAnyG_ready (rs := [5]) (by kernel_rfl) (by simp) ?_
     refine AllReadyG.plain rfl rfl (fun K hK => ?_) AllReadyG.nil
     refine wp_append_own1 T_RE _ _ rfl xc (by go_simp) (show w11.ownsRow w6.heap.size 67 4 u2 es2.length es2.flatten from HI6.out.rows.own (rowCs 67 4 u2 es2) (by simp)) (by go_simp) HXl.out HX1.out (by have h1 := Hbd2.out; have h2 := HL.out; omega) HI6.out.lts.2.2 ?_
     intro u9 w9 ho9 hg9 hat9 hone9
     have HB9 := HI6.out.blk8 (r := rowCs 67 4 u2 es2) (by simp) hg9
     have HB79 : Blk w9 g7 yc := HB7b.out.grown hg9 (fun e => Hn7.out g7 e.symm rfl)
     refine hK.out _ _ (InvG.mk trivial ⟨HB9, HB79⟩) (fun _ => ?_)
     clear hK
     refine fSxConvA8_42 ?_
     refine wpAnyG_take0 (i := 6) (v := .pointer (some ⟨gm, 2, none⟩)) rfl (by kernel_rfl) (fun _ _ _ h => h) (.inl ⟨by rfl, fun w hw => by go_simp⟩) (InvG.mk trivial ⟨HB9, HB79⟩) ?_
     refine fSxConvA8_42 ?_
     refine wpAnyG_ready (rs := [7]) (by kernel_rfl) (by simp) ?_
     refine AllReadyG.plain rfl rfl (fun K hK => ?_) AllReadyG.nil
     refine wp_store_lay 32 _ _ rfl gm 2 u9 [u9] [.string (toB nm), u1, u2] (by go_simp) (by go_simp) (one_cells hone9) HB9 info1RE (show 2 + 1 ≤ 3 by decide) (one1 hone9) ?_
     intro w10 hB10 hg10 hs10
     have H9 : Hid (Built h0 w6.heap.size gm w [.string (toB nm), u1, u9] [rowCs 63 9 u1 es1, rowCs 67 4 u9 (es2 ++ [xc])] (filRD ms es1 (es.take (k + 1)) (es2 ++ [xc])) w10) := Yq (by
      rw [HT.out, rowCs_snoc]
      exact HI6.out.push (L := [rowCs 63 9 u1 es1]) (M := []) (r := rowCs 67 4 u2 es2) ho9 hg9 hat9 hB10 hg10 (fun h' hle => ⟨HI6.out.rd.1.mono hle, EnsR.snoc (HXr.out.mono hle) (HI6.out.rd.2.mono hle)⟩))
     have HX9 : Hid (Blk w10 g1 [.string (toB nm), .slice a1 n1 c1, .slice a2 n2 c2] ∧ Blk w10 gr zFl) := Yq ⟨HI6.out.other (r := rowCs 67 4 u2 es2) (by simp) HX6.out.1 Hgs.out.1 Hgs.out.2.2.1 hg9 hg10, HI6.out.other (r := rowCs 67 4 u2 es2) (by simp) HX6.out.2 Hgs.out.2.1 Hgs.out.2.2.2.1 hg9 hg10⟩
     clear ho9 hg9 hat9 hone9 HB9 HB79 hB10 hg10 hs10
     refine hK.out _ _ (InvG.past trivial (by kernel_rfl)) (fun _ => ?_)
     clear hK
     refine fSxConvA8_42 ?_
     refine wpAnyG_done (by kernel_rfl) ?_ _
     go_wp2_with fail
     go_roundw
     case rel => exact ⟨k + 1, u9, es2 ++ [xc], by omega, by go_num, H9, HX9, Yq (by rw [List.length_append, HL.out]; rfl)⟩
     case measure => simp [intOf]; omega
    ·obtain rfl : n2 = k := by omega
     have HI2 : Hid (Built h0 w6.heap.size gm w [.string (toB nm), u1, u2] [rowCs 63 9 u1 es1, rowCs 67 4 u2 es2] (filRD ms es1 es es2) wr) := Yq (by
      have h1 := HI.out
      rw [List.take_of_length_le (by rw [← HR2.out.len, Hn2.out]; exact Nat.le_refl _)] at h1
      exact h1)
     clear HI
     obtain ⟨w21, hwr⟩ : ∃ z, z = wr := ⟨_, rfl⟩
     subst hwr
     have HI := HI2
     clear HI2
     have HL2 := HL
     clear hlt hkn
     have hWm := HI.out.blk.whole
     have HBr := HX.out.2
     go_wp2_with (first
      | (refine wpList_load_seg rfl 34 _ rfl _ _ rfl _ _ hWm Tryz.underlying34 rfl infoRFl ?_)
      | (refine wpList_store_all rfl 34 _ _ rfl gr [.string (toB nm), u1, u2] rfl rfl zFl HBr infoRFl rfl ?_ ?_; (· intro u hu; simp only [List.mem_cons, List.not_mem_nil, or_false] at hu; rcases hu with rfl | rfl | rfl <;> first | rfl | exact own_one (HI.out.rows.own _ (by simp only [List.mem_cons]; exact .inl rfl)) | exact own_one (HI.out.rows.own _ (by simp only [List.mem_cons]; exact .inr (.inl rfl))) | exact own_one (HI.out.rows.own _ (by simp only [List.mem_cons]; exact .inr (.inr (.inl rfl)))) | exact own_one (HI.out.rows.own _ (by simp only [List.mem_cons]; exact .inr (.inr (.inr (.inl rfl)))))); (intro w30 hB30 hgr30)))
     obtain ⟨hrd, hrows, hbel, _⟩ := HI.out.done (filRD_mono _ _ _ _) hgr30 Hgs.out.2.2.2.2 Hgs.out.2.1
     refine bodyPost_ret (v := .agg [.string (toB nm), u1, u2].toArray) ?_ rfl ⟨_, rfl, ?_, hbel⟩
     ·exact results_blk (p := 2) (ty := 34) rfl _ _ gr [.string (toB nm), u1, u2] rfl hB30 _ Tryz.underlying34 rfl infoRFl
     ·exact ⟨_, _, _, _, rfl, ⟨⟨FlatC.of_ownsJ (hrows.own (rowCs 63 9 u1 es1) (by simp)) (by have := HI.out.lts; omega) hrd.1.sizes, by rw [HL1.out]; exact Hbd1.out⟩, ⟨FlatC.of_ownsJ (hrows.own (rowCs 67 4 u2 es2) (by simp)) (by have := HI.out.lts; omega) hrd.2.sizes, by rw [HL2.out]; exact Hbd2.out⟩⟩, hrd.1, hrd.2⟩
end Go.Proofs.YtpcfdngnmigkfaaGreatDoor
