/- redlinelaw13.Of, walked: a value as of the document is the same tree. -/
import Derived.Test.YtebekgdjknenlaaGreatDoorRefCmp
import Derived.Test.YtebekgdjknenlaaGreatDoorGpAK
import Derived.Test.YtebekgdjknenlaaGreatDoorGpAP
set_option maxRecDepth 100000
set_option maxHeartbeats 8000000
set_option linter.unusedVariables false
set_option linter.unusedSimpArgs false
namespace Go.Proofs.YtebekgdjknenlaaGreatDoor
open Go.RowKit
open Val (V v0 vmx vmxF vmxL vmxP)
theorem fRefOfA8_74 {P : Program} {M : Region.Mode} {O : Array Oper} {Q : Exit → Act → World → Prop} {Y Z : World → Prop} {f F : Nat} {a b c e g i j k : Bool} {l m n o p q r s t u v x y z a0 a1 a2 a3 a4 a5 a6 a7 a8 a9 aA aB aC aD aE aF aG aH aI aJ aK aL aM aN aO aP aQ aR aS aT aU aV aW aX aY aZ b0 b1 b2 b3 b4 b5 b6 b7 b8 b9 bA bB bC bD bE bF bG bH bI bJ bK bL bM bN : Value} {d} {w : World} (h : wpAnyG P M O Q Y Z f F #[a,b,c,e,g,i,j,k] ⟨#[l,m,n,o,p,q,r,s,t,u,v,x,y,z,a0,a1,a2,a3,a4,a5,a6,a7,a8,a9,aA,aB,aC,aD,aE,aF,aG,aH,aI,aJ,aK,aL,aM,aN,aO,aP,aQ,aR,aS,aT,aU,aV,aW,aX,aY,aZ,b0,b1,b2,b3,b4,b5,b6,b7,b8,b9,bA,bB,bC,bD,bE,bF,bG,bH,bI,bJ,bK,bL,bM,bN],d⟩ w) : wpAnyG P M O Q Y Z f F #[a,b,c,e,g,i,j,k] ⟨#[l,m,n,o,p,q,r,s,t,u,v,x,y,z,a0,a1,a2,a3,a4,a5,a6,a7,a8,a9,aA,aB,aC,aD,aE,aF,aG,aH,aI,aJ,aK,aL,aM,aN,aO,aP,aQ,aR,aS,aT,aU,aV,aW,aX,aY,aZ,b0,b1,b2,b3,b4,b5,b6,b7,b8,b9,bA,bB,bC,bD,bE,bF,bG,bH,bI,bJ,bK,bL,bM,bN],d⟩ w := h
theorem fRefOfA12_74 {P : Program} {M : Region.Mode} {O : Array Oper} {Q : Exit → Act → World → Prop} {Y Z : World → Prop} {f F : Nat} {a b c e g i j k l m n o : Bool} {p q r s t u v x y z a0 a1 a2 a3 a4 a5 a6 a7 a8 a9 aA aB aC aD aE aF aG aH aI aJ aK aL aM aN aO aP aQ aR aS aT aU aV aW aX aY aZ b0 b1 b2 b3 b4 b5 b6 b7 b8 b9 bA bB bC bD bE bF bG bH bI bJ bK bL bM bN bO bP bQ bR : Value} {d} {w : World} (h : wpAnyG P M O Q Y Z f F #[a,b,c,e,g,i,j,k,l,m,n,o] ⟨#[p,q,r,s,t,u,v,x,y,z,a0,a1,a2,a3,a4,a5,a6,a7,a8,a9,aA,aB,aC,aD,aE,aF,aG,aH,aI,aJ,aK,aL,aM,aN,aO,aP,aQ,aR,aS,aT,aU,aV,aW,aX,aY,aZ,b0,b1,b2,b3,b4,b5,b6,b7,b8,b9,bA,bB,bC,bD,bE,bF,bG,bH,bI,bJ,bK,bL,bM,bN,bO,bP,bQ,bR],d⟩ w) : wpAnyG P M O Q Y Z f F #[a,b,c,e,g,i,j,k,l,m,n,o] ⟨#[p,q,r,s,t,u,v,x,y,z,a0,a1,a2,a3,a4,a5,a6,a7,a8,a9,aA,aB,aC,aD,aE,aF,aG,aH,aI,aJ,aK,aL,aM,aN,aO,aP,aQ,aR,aS,aT,aU,aV,aW,aX,aY,aZ,b0,b1,b2,b3,b4,b5,b6,b7,b8,b9,bA,bB,bC,bD,bE,bF,bG,bH,bI,bJ,bK,bL,bM,bN,bO,bP,bQ,bR],d⟩ w := h
theorem fRefOfA13_74 {P : Program} {M : Region.Mode} {O : Array Oper} {Q : Exit → Act → World → Prop} {Y Z : World → Prop} {f F : Nat} {a b c e g i j k l m n o p : Bool} {q r s t u v x y z a0 a1 a2 a3 a4 a5 a6 a7 a8 a9 aA aB aC aD aE aF aG aH aI aJ aK aL aM aN aO aP aQ aR aS aT aU aV aW aX aY aZ b0 b1 b2 b3 b4 b5 b6 b7 b8 b9 bA bB bC bD bE bF bG bH bI bJ bK bL bM bN bO bP bQ bR bS : Value} {d} {w : World} (h : wpAnyG P M O Q Y Z f F #[a,b,c,e,g,i,j,k,l,m,n,o,p] ⟨#[q,r,s,t,u,v,x,y,z,a0,a1,a2,a3,a4,a5,a6,a7,a8,a9,aA,aB,aC,aD,aE,aF,aG,aH,aI,aJ,aK,aL,aM,aN,aO,aP,aQ,aR,aS,aT,aU,aV,aW,aX,aY,aZ,b0,b1,b2,b3,b4,b5,b6,b7,b8,b9,bA,bB,bC,bD,bE,bF,bG,bH,bI,bJ,bK,bL,bM,bN,bO,bP,bQ,bR,bS],d⟩ w) : wpAnyG P M O Q Y Z f F #[a,b,c,e,g,i,j,k,l,m,n,o,p] ⟨#[q,r,s,t,u,v,x,y,z,a0,a1,a2,a3,a4,a5,a6,a7,a8,a9,aA,aB,aC,aD,aE,aF,aG,aH,aI,aJ,aK,aL,aM,aN,aO,aP,aQ,aR,aS,aT,aU,aV,aW,aX,aY,aZ,b0,b1,b2,b3,b4,b5,b6,b7,b8,b9,bA,bB,bC,bD,bE,bF,bG,bH,bI,bJ,bK,bL,bM,bN,bO,bP,bQ,bR,bS],d⟩ w := h
def RetRV (F : List (Option Nat)) (w : World) (x : V) (e : Ending) (w' : World) : Prop := ∃ yc, e = .returned (.agg yc.toArray) ∧ VR (fragE w' F) x yc ∧ Below w.heap.size w w'
def ROfAt (N : Nat) : Prop := ∀ (F : List (Option Nat)) (x : V) (xc : List Value) (w : World), (∀ k, some k ∈ F → k < w.heap.size) → SizeOf.sizeOf x < N → vmx x ≤ 90000 → VR (fragE w F) x xc →
 Calls Tryz.prog 7 #[.agg xc.toArray] w (RetRV F w x)
theorem T_RF : SliceT Tryz.prog 36 63 (.agg (Value.int .i64 0 :: zV).toArray) 8 128 := ⟨Tryz.underlying36, by kernel_rfl, rfl, by decide, by decide⟩
theorem T_RL : SliceT Tryz.prog 37 40 (.agg zV.toArray) 7 120 := ⟨Tryz.underlying37, by kernel_rfl, rfl, by decide, by decide⟩
theorem T_RP : SliceT Tryz.prog 38 67 (.agg (zV ++ zV).toArray) 14 240 := ⟨Tryz.underlying38, by kernel_rfl, rfl, by decide, by decide⟩
theorem info2RF : (Tryz.prog.info? 63).map (fun i => (i.size, i.zero.map (fun z => z.cells.size))) = some (8, some 8) := by kernel_rfl
theorem info2RL : (Tryz.prog.info? 40).map (fun i => (i.size, i.zero.map (fun z => z.cells.size))) = some (7, some 7) := by kernel_rfl
theorem info2RP : (Tryz.prog.info? 67).map (fun i => (i.size, i.zero.map (fun z => z.cells.size))) = some (14, some 14) := by kernel_rfl
theorem info1RF : (Tryz.prog.info? 36).map (·.size) = some 1 := by kernel_rfl
theorem info1RL : (Tryz.prog.info? 37).map (·.size) = some 1 := by kernel_rfl
theorem info1RP : (Tryz.prog.info? 38).map (·.size) = some 1 := by kernel_rfl
theorem zeroRF : (Tryz.prog.info? 63).map (·.zero) = some (some (.agg (Value.int .i64 0 :: zV).toArray)) := by kernel_rfl
theorem zeroRP : (Tryz.prog.info? 67).map (·.zero) = some (some (.agg (zV ++ zV).toArray)) := by kernel_rfl
theorem zeroVF : (Tryz.prog.info? 61).map (·.zero) = some (some (.agg (Value.int .i64 0 :: zV).toArray)) := by kernel_rfl
theorem zeroVP : (Tryz.prog.info? 65).map (·.zero) = some (some (.agg (zV ++ zV).toArray)) := by kernel_rfl
theorem oinfF : (Tryz.prog.info? 61).map (·.size) = some 8 := by kernel_rfl
theorem oinfP : (Tryz.prog.info? 65).map (·.size) = some 14 := by kernel_rfl
theorem oinfI : (Tryz.prog.info? 3).map (·.size) = some 1 := by kernel_rfl
theorem osz8 (w : World) : (Go.sizeOf (Tryz.prog.elem 23)).run Tryz.prog w = .ok 8 w := by kernel_rfl
theorem osz7 (w : World) : (Go.sizeOf (Tryz.prog.elem 24)).run Tryz.prog w = .ok 7 w := by kernel_rfl
theorem osz14 (w : World) : (Go.sizeOf (Tryz.prog.elem 25)).run Tryz.prog w = .ok 14 w := by kernel_rfl
theorem rof_build (k n : Int) (t r : ByteArray) (w : World) : (Instr.build 40 #[(0, .int .i64 k), (1, .int .u64 n), (2, .string t), (4, .string r)]).run Tryz.prog w = .ok (.agg #[.int .i64 k, .int .u64 n, .string t, .slice none 0 0, .string r, .slice none 0 0, .slice none 0 0]) w := by kernel_rfl
theorem wpList_build4 {P : Program} {ops : Array Oper} {rest : List Oper} {op : Oper} {a : Act} {w : World} {Q : Exit → Act → World → Prop} (hgd : op.guard = none) (t : TypeId) (i0 i1 i2 i3 : Nat) (x0 x1 x2 x3 : Operand) (ho : op.op = .build t #[(i0, x0), (i1, x1), (i2, x2), (i3, x3)]) (v0 v1 v2 v3 v : Value)
  (h0 : a.eval x0 = v0) (h1 : a.eval x1 = v1) (h2 : a.eval x2 = v2) (h3 : a.eval x3 = v3) (hr : ∀ w, (Instr.build t #[(i0, v0), (i1, v1), (i2, v2), (i3, v3)]).run P w = .ok v w) (h : wpList P ops Q rest (a.put op.dst v) w) : wpList P ops Q (op :: rest) a w :=
 wpList_plain hgd fun _ hK => by
  unfold Oper.wp execOp
  simp only [ho, List.map_toArray, List.map_cons, List.map_nil, h0, h1, h2, h3, Sem.run_bind, Sem.run_pure, hr w, Result.andThen_ok]
  exact hK _ _ h
theorem VR.ones {h : Frag} {x : V} {cs : List Value} (hx : VR h x cs) : ∀ u ∈ cs, u.oneCell' = true := hx.shape.one
theorem VR.monoF {x : V} {c : List Value} : MonoF (fun h => VR h x c) := fun _ _ hle h => h.mono hle
theorem FsR.monoF {x : List (Int × V)} {c : List (List Value)} : MonoF (fun h => FsR h x c) := fun _ _ hle h => h.mono hle
theorem LsR.monoF {x : List V} {c : List (List Value)} : MonoF (fun h => LsR h x c) := fun _ _ hle h => h.mono hle
theorem PsR.monoF {x : List (V × V)} {c : List (List Value)} : MonoF (fun h => PsR h x c) := fun _ _ hle h => h.mono hle
theorem FlatC.monoF {s : Nat} {v : Value} {c : List (List Value)} : MonoF (fun h => FlatC s h v c) := fun _ _ hle h => h.mono hle
theorem FsR.sizes {h : Frag} {xs : List (Int × V)} {es : List (List Value)} (hv : FsR h xs es) : ∀ e ∈ es, e.length = 8 := fun e he => by
 obtain ⟨m, x, hx, rfl⟩ := hv.shapes e he
 obtain ⟨k, n, t, r, a1, n1, c1, a2, n2, c2, a3, n3, c3, rfl⟩ := hx
 rfl
theorem LsR.sizes7 {h : Frag} {x : List V} {c : List (List Value)} (hx : LsR h x c) : ∀ e ∈ c, e.length = 7 := fun e he => by
 obtain ⟨k, n, t, r, a1, n1, c1, a2, n2, c2, a3, n3, c3, rfl⟩ := hx.shapes e he
 rfl
theorem PsR.sizes {h : Frag} {xs : List (V × V)} {es : List (List Value)} (hv : PsR h xs es) : ∀ e ∈ es, e.length = 14 := fun e he => by
 obtain ⟨x, y, hx, hy, rfl⟩ := hv.shapes e he
 obtain ⟨k, n, t, r, a1, n1, c1, a2, n2, c2, a3, n3, c3, rfl⟩ := hx
 obtain ⟨k, n, t, r, a1, n1, c1, a2, n2, c2, a3, n3, c3, rfl⟩ := hy
 rfl
theorem one_cons {k : Int} {c : List Value} (h : ∀ u ∈ c, u.oneCell' = true) : ∀ u ∈ Value.int .i64 k :: c, u.oneCell' = true := fun u hu => by
 rcases List.mem_cons.1 hu with rfl | hu
 ·rfl
 ·exact h u hu
theorem one_app {c d : List Value} (h : ∀ u ∈ c, u.oneCell' = true) (h2 : ∀ u ∈ d, u.oneCell' = true) : ∀ u ∈ c ++ d, u.oneCell' = true := fun u hu => by
 rcases List.mem_append.1 hu with hu | hu
 ·exact h u hu
 ·exact h2 u hu
def cOV (k n : Int) (t : ByteArray) (fv : Value) (r : ByteArray) (lv pv : Value) : List Value := [.int .i64 k, .int .u64 n, .string t, fv, .string r, lv, pv]
theorem cOV_one {k n : Int} {t : ByteArray} {fv : Value} {r : ByteArray} {lv pv : Value} (h1 : fv.oneCell' = true) (h2 : lv.oneCell' = true) (h3 : pv.oneCell' = true) : ∀ u ∈ cOV k n t fv r lv pv, u.oneCell' = true := fun u hu => by
 simp only [cOV, List.mem_cons, List.not_mem_nil, or_false] at hu
 rcases hu with rfl | rfl | rfl | rfl | rfl | rfl | rfl <;> first | rfl | assumption
theorem rof_succ (N : Nat) (ih : ROfAt N) : ROfAt (N + 1) := by
 intro F x xc w hF hsz hmx hx
 obtain ⟨kd, n, t, f, r, l, ps⟩ := x
 have HS1 : Hid (∀ e ∈ f, SizeOf.sizeOf e.2 < N ∧ vmx e.2 ≤ 90000) := fun e h => ⟨by have := Val.size_field (x := .mk kd n t f r l ps) (m := e.1) (v := e.2) h; omega, by have := Val.vmxF_mem h; have h2 := (Val.vmx_parts (.mk kd n t f r l ps)).2.1; simp only [V.fields] at h2; omega⟩
 have HS2 : Hid (∀ e ∈ l, SizeOf.sizeOf e < N ∧ vmx e ≤ 90000) := fun e h => ⟨by have := Val.size_list (x := .mk kd n t f r l ps) (v := e) h; omega, by have := Val.vmxL_mem h; have h2 := (Val.vmx_parts (.mk kd n t f r l ps)).2.2.2.1; simp only [V.list] at h2; omega⟩
 have HS3 : Hid (∀ e ∈ ps, (SizeOf.sizeOf e.1 < N ∧ SizeOf.sizeOf e.2 < N) ∧ (vmx e.1 ≤ 90000 ∧ vmx e.2 ≤ 90000)) := fun e h => ⟨by have := Val.size_pair (x := .mk kd n t f r l ps) (k := e.1) (v := e.2) h; omega, by have := Val.vmxP_mem h; have h2 := (Val.vmx_parts (.mk kd n t f r l ps)).2.2.2.2.2; simp only [V.pairs] at h2; omega⟩
 have Hln : Hid (f.length ≤ 90000 ∧ l.length ≤ 90000 ∧ ps.length ≤ 90000) := by have h := Val.vmx_parts (.mk kd n t f r l ps); simp only [V.fields, V.list, V.pairs] at h; show _ ∧ _ ∧ _; omega
 rw [VR] at hx
 obtain ⟨fv0, lv0, pv0, fe, le, pe, hxc, h2, ⟨h3, h4, h5⟩, h6, h7, h8⟩ := hx
 obtain ⟨a1, c1, e1, b1, b2, b3⟩ := h3.len
 obtain ⟨a2, c2, e2, d1, d2, d3⟩ := h4.len
 obtain ⟨a3, c3, e3, p1, p2, p3⟩ := h5.len
 subst e1 e2 e3
 have HX1 : Hid (FlatC 8 (fragE w F) (.slice a1 fe.length c1) fe ∧ FsR (fragE w F) f fe) := ⟨h3, h6⟩
 have HX2 : Hid (FlatC 7 (fragE w F) (.slice a2 le.length c2) le ∧ LsR (fragE w F) l le) := ⟨h4, h7⟩
 have HX3 : Hid (FlatC 14 (fragE w F) (.slice a3 pe.length c3) pe ∧ PsR (fragE w F) ps pe) := ⟨h5, h8⟩
 have Hm1 := Yq h6.len; have Hm2 := Yq h7.len; have Hm3 := Yq h8.len
 have H2 := Yq h2
 have HC1 := Yq (fun (w2 : World) (g : Nat) (hB : Blk w2 g xc) => (show w2.cell? ⟨g, 0, none⟩ = some (.int .i64 kd) ∧ w2.cell? ⟨g, 1, none⟩ = some (.int .u64 n) ∧ w2.cell? ⟨g, 2, none⟩ = some (.string t) ∧ w2.cell? ⟨g, 4, none⟩ = some (.string r) ∧ w2.cell? ⟨g, 3, none⟩ = some (.slice a1 fe.length c1) ∧ w2.cell? ⟨g, 5, none⟩ = some (.slice a2 le.length c2) ∧ w2.cell? ⟨g, 6, none⟩ = some (.slice a3 pe.length c3) by
  subst hxc; exact ⟨hB.cell rfl, hB.cell rfl, hB.cell rfl, hB.cell rfl, hB.cell rfl, hB.cell rfl, hB.cell rfl⟩))
 obtain ⟨ns1, hn1⟩ : ∃ z, z = fe.length := ⟨_, rfl⟩
 obtain ⟨ns2, hn2⟩ : ∃ z, z = le.length := ⟨_, rfl⟩
 obtain ⟨ns3, hn3⟩ : ∃ z, z = pe.length := ⟨_, rfl⟩
 rw [← hn1, ← hn2, ← hn3] at HC1
 rw [← hn1] at HX1; rw [← hn2] at HX2; rw [← hn3] at HX3
 have Hn1 := Yq hn1.symm; have Hn2 := Yq hn2.symm; have Hn3 := Yq hn3.symm
 have Hbd1 : Hid (ns1 ≤ 90000) := by show _ ≤ _; have := Hm1.out; have := Hln.out; omega
 have Hbd2 : Hid (ns2 ≤ 90000) := by show _ ≤ _; have := Hm2.out; have := Hln.out; omega
 have Hbd3 : Hid (ns3 ≤ 90000) := by show _ ≤ _; have := Hm3.out; have := Hln.out; omega
 have HFw := Yq hF
 have hns1 : ns1 ≤ 9223372036854775807 := by have := Hbd1.out; omega
 have hns2 : ns2 ≤ 9223372036854775807 := by have := Hbd2.out; omega
 have hns3 : ns3 ≤ 9223372036854775807 := by have := Hbd3.out; omega
 clear hxc h2 h3 h4 h5 h6 h7 h8 b1 b2 b3 d1 d2 d3 p1 p2 p3 hF hsz hmx hn1 hn2 hn3
 go_enter Tryz.func7, Tryz.ntmps7
 have HO := OwnF.start (Own.nil w) F [rowC 63 8 (.slice none 0 0) [], rowC 40 7 (.slice none 0 0) [], rowC 67 14 (.slice none 0 0) []] (fun r hr => by simp only [List.mem_cons, List.not_mem_nil, or_false] at hr; rcases hr with rfl | rfl | rfl <;> exact ⟨rfl, rfl, rfl⟩)
 go_upto_region 1 with (first
 | ((with_reducible refine atOp (.box 27 _) ?_); refine wpList_box_ownF rfl 27 _ rfl xc rfl HO ?_; clear HO; intro w1 g1 HO)
 | ((with_reducible refine atOp (.alloc 40) ?_); refine wpList_alloc_ownF rfl 40 rfl zV zeroRV HO ?_; clear HO; intro w2 g2 HO)
 | fail)
 obtain ⟨q0, q1, q2, q4, _⟩ := HC1.out _ _ (HO.at 1 rfl)
 go_upto_region 2 with (first
 | (refine wpList_build4 rfl 40 0 1 2 4 _ _ _ _ rfl (.int .i64 kd) (.int .u64 n) (.string t) (.string r) _ rfl rfl rfl rfl (rof_build kd n t r) ?_)
 | ((with_reducible refine atOp (.alloc 40) ?_); refine wpList_alloc_ownF rfl 40 rfl zV zeroRV HO ?_; clear HO; intro w3 g3 HO)
 | ((with_reducible refine atOp (.store 40 _ _) ?_); refine wpList_store_ownF 0 rfl 40 _ _ rfl _ 0 (cOV kd n t (.slice none 0 0) r (.slice none 0 0) (.slice none 0 0)) rfl rfl HO rfl infoRV (Nat.le_refl _) (cOV_one rfl rfl rfl) rfl ?_; clear HO; intro w4 HO)
 | fail)
 have HO4 : Hid (OwnF F w [(g3, cOV kd n t (.slice none 0 0) r (.slice none 0 0) (.slice none 0 0)), (g2, zV), (g1, xc)] [rowC 63 8 (.slice none 0 0) [], rowC 40 7 (.slice none 0 0) [], rowC 67 14 (.slice none 0 0) []] (fun _ => True) w4) := HO
 clear HO q0 q1 q2 q4
 have HO := HO4.out
 clear HO4
 have q3 := (HC1.out _ _ (HO.at 2 rfl)).2.2.2.2.1
 go_wp2_with fail
 clear q3
 go_loopw [22] (fun i wr => ∃ (k : Nat) (u : Value) (ds : List (List Value)), k ≤ ns1 ∧ i = .int .i64 k ∧ Hid (OwnF F w [(g3, cOV kd n t u r (.slice none 0 0) (.slice none 0 0)), (g2, zV), (g1, xc)] [rowC 63 8 u ds, rowC 40 7 (.slice none 0 0) [], rowC 67 14 (.slice none 0 0) []] (fun h => (True) ∧ FsR h (f.take k) ds) wr) ∧ Hid (ds.length = k)) (fun i _ => ns1 - (intOf i).toNat)
 case atStart => exact ⟨0, _, [], Nat.zero_le _, rfl, Yq (HO.read (MonoF.and MonoF.tt FsR.monoF) (fun hr => ⟨hr, by simp [FsR]⟩)), Yq rfl⟩
 case round =>
  obtain ⟨k, u, ds, hkn, rfl, HO2, HDl⟩ := hrel
  clear HO
  have HO := HO2.out
  clear HO2
  by_cases hlt : k < ns1
  ·have hks : k < fe.length := by rw [Hn1.out]; exact hlt
   have hkf : k < f.length := by rw [← Hm1.out]; exact hks
   obtain ⟨b0, o0, hb0, hidx, hcell⟩ := FlatC.at (n := ns1) (cap := c1) (a := a1) (HX1.out.1.mono (fragE_le _ _)) (by decide) (i := k) hks Tryz.underlying23 osz8
   have hr : wr.rangeAt b0 o0 fe[k] := range_below hcell HO.below hb0
   obtain ⟨ec, hx, rx⟩ := HX1.out.2.at hkf hks
   rw [hx] at hr
   have HLx := Yq rx.len
   have HL : Hid ((Value.int .i64 f[k].1 :: ec).length = 8) := by show _ = _; simp [rx.len]
   have H1 := Yq (one_cons (k := f[k].1) rx.ones)
   have HT : Hid (f.take (k + 1) = f.take k ++ [(f[k].1, f[k].2)]) := List.take_succ_eq_append_getElem hkf
   have HRg := Yq (HS1.out _ (List.getElem_mem hkf))
   have HX : Hid (VR (fragE w F) f[k].2 ec) := rx
   clear hcell hx rx
   generalize f[k].1 = num at *
   generalize f[k].2 = x1 at *
   obtain ⟨st, hst⟩ : ∃ z, z = f.take k := ⟨_, rfl⟩
   rw [← hst] at HO HT
   clear hst hkf hks
   go_wp2_with (first
    | ((with_reducible refine atOp (.load 61 _) ?_); refine wpList_load_seg rfl 61 _ rfl _ _ rfl _ _ hr Tryz.underlying61 rfl (iC oinfF HL) ?_)
    | ((with_reducible refine atOp (.alloc 61) ?_); refine wpList_alloc_ownF rfl 61 rfl ((.int .i64 0 :: zV)) zeroVF HO ?_; clear HO; intro w4 g7 HO)
    | ((with_reducible refine atOp (.store 61 _ _) ?_); refine wpList_store_ownF 0 rfl 61 _ _ rfl _ 0 ((Value.int .i64 num :: ec)) rfl rfl HO rfl (iC oinfF HL) (by rw [HL.out]; decide) H1.out (patch_whole' _ _ (by rw [HL.out]; rfl)) ?_; clear HO hr hidx; intro w5 HO)
    | fail)
   replace HO : OwnF F w [(g7, (Value.int .i64 num :: ec)), (g3, cOV kd n t u r (.slice none 0 0) (.slice none 0 0)), (g2, zV), (g1, xc)] [rowC 63 8 u ds, rowC 40 7 (.slice none 0 0) [], rowC 67 14 (.slice none 0 0) []] (fun h => (True) ∧ FsR h st ds) w5.drew := HO.drew
   refine wp_region_G 11 (fun _ => True) (fun w' => Own w [(g7, (Value.int .i64 num :: ec)), (g3, cOV kd n t u r (.slice none 0 0) (.slice none 0 0)), (g2, zV), (g1, xc)] w') (by kernel_rfl) trivial HO.own (fun _ => ?_)
   refine wpAnyG_take (i := 0) (v := .pointer (some ⟨g3, 3, none⟩)) rfl (by kernel_rfl) (fun _ _ _ h => h) (.inl ⟨by rfl, fun w hw => by go_simp⟩) (mkG HO.own) ?_
   refine fRefOfA12_74 ?_
   refine wpAnyG_take (i := 1) (v := u) rfl (by kernel_rfl) (fun _ _ _ h => h) (.inl ⟨by rfl, fun w hw => by have hc := (hw.2.at 1 rfl).cell (o := 3) (u := u) rfl; clear hw; go_simp⟩) (mkG HO.own) ?_
   refine fRefOfA12_74 ?_
   refine wpAnyG_take (i := 2) (v := .pointer (some ⟨g7, 0, none⟩)) rfl (by kernel_rfl) (fun _ _ _ h => h) (.inl ⟨by rfl, fun w hw => by go_simp⟩) (mkG HO.own) ?_
   refine fRefOfA12_74 ?_
   refine wpAnyG_take (i := 3) (v := .int .i64 num) rfl (by kernel_rfl) (fun _ _ _ h => h) (.inl ⟨by rfl, fun w hw => by have hc := (hw.2.at 0 rfl).cell (o := 0) (u := .int .i64 num) rfl; clear hw; go_simp⟩) (mkG HO.own) ?_
   refine fRefOfA12_74 ?_
   refine wpAnyG_take (i := 4) (v := .pointer (some ⟨g7, 1, none⟩)) rfl (by kernel_rfl) (fun _ _ _ h => h) (.inl ⟨by rfl, fun w hw => by go_simp⟩) (mkG HO.own) ?_
   refine fRefOfA12_74 ?_
   refine wpAnyG_take (i := 5) (v := .agg ec.toArray) rfl (by kernel_rfl) (fun _ _ _ h => h) (yieldsIf_load_mid (by rfl) 27 _ rfl g7 1 (by go_simp) ec _ (fun w h => (h.2.at 0 rfl).range (p := [.int .i64 num]) (q := ec) (r := []) (by simp) rfl) Tryz.underlying27 rfl (iC infoV HLx)) (mkG HO.own) ?_
   refine fRefOfA12_74 ?_
   refine rdG (i := 6) (by kernel_rfl) rfl rfl (fun K hK => ?_)
   go_simp
   refine (ih (exF F _ _) x1 ec _ (HO.lt HFw.out) HRg.out.1 HRg.out.2 (HX.out.mono HO.args)).mono ?_
   rintro e w6 ⟨yc, rfl, hy, hbq⟩
   replace HO := (HO.call hbq).read (MonoF.and HO.mono (VR.monoF (x := x1) (c := yc))) (fun hr => ⟨hr, hy⟩)
   have HLv := Yq hy.len; have HOv := Yq hy.ones; clear hy hbq
   refine hK.out _ _ (mkG HO.own) (fun _ => ?_)
   clear hK
   refine fRefOfA12_74 ?_
   have HNl : Hid ((Value.int .i64 num :: yc).length = 8) := by show _ = _; simp [HLv.out]
   have HN1 := Yq (one_cons (k := num) HOv.out)
   refine wpAnyG_take (i := 7) (v := .agg (Value.int .i64 num :: yc).toArray) rfl (by kernel_rfl) (fun _ _ _ h => h) (yieldsIf_build2 (by rfl) 63 _ _ rfl [.int .i64 num] yc (.int .i64 num) (.agg yc.toArray) (by go_simp) (by go_simp) Tryz.underlying63 zeroRF rfl rfl oinfI (iC infoRV HLv) (by rw [HLv.out]; rfl) rfl rfl) (mkG HO.own) ?_
   refine fRefOfA12_74 ?_
   refine rdG (i := 8) (by kernel_rfl) rfl rfl (fun K hK => ?_)
   refine wp_buildSlice1 36 63 _ rfl (Value.int .i64 num :: yc) (.agg (Value.int .i64 num :: yc).toArray) (by go_simp) Tryz.underlying36 (by rw [HNl.out]; exact info2RF) (by rw [HNl.out]; decide) (by rw [HNl.out]; decide) rfl ?_
   refine hK.out _ _ (mkG (HO.own.call ((Below.refl _ _).alloc (Nat.le_refl _) _))) (fun _ => ?_)
   clear hK
   refine fRefOfA12_74 ?_
   refine rdG (i := 9) (by kernel_rfl) rfl rfl (fun K hK => ?_)
   refine wp_append_ownF (L := []) (M := [rowC 40 7 (.slice none 0 0) [], rowC 67 14 (.slice none 0 0) []]) T_RF _ _ rfl (Value.int .i64 num :: yc) HO (by go_simp) (by go_simp) HNl.out HN1.out (by rw [HDl.out]; have := Hbd1.out; omega) ?_
   intro u9 w9 HO9 hone9
   refine hK.out _ _ (mkG HO9.own) (fun _ => ?_)
   clear hK
   refine fRefOfA12_74 ?_
   refine wpAnyG_take (i := 10) (v := .pointer (some ⟨g3, 3, none⟩)) rfl (by kernel_rfl) (fun _ _ _ h => h) (.inl ⟨by rfl, fun w hw => by go_simp⟩) (mkG HO9.own) ?_
   refine fRefOfA12_74 ?_
   refine rdG (i := 11) (by kernel_rfl) rfl rfl (fun K hK => ?_)
   refine wp_store_ownF 1 36 _ _ rfl g3 3 u9 [u9] (ds := cOV kd n t u9 r (.slice none 0 0) (.slice none 0 0)) (by go_simp) (by go_simp) (one_cells hone9) HO9 rfl info1RF (Nat.le_of_ble_eq_true rfl) (by simpa using hone9) rfl ?_
   intro w10 HO10
   refine hK.out _ _ (InvG.past trivial (by kernel_rfl)) (fun _ => ?_)
   clear hK
   refine fRefOfA12_74 ?_
   refine wpAnyG_done (by kernel_rfl) ?_ _
   have HOn : Hid (OwnF F w [(g3, cOV kd n t u9 r (.slice none 0 0) (.slice none 0 0)), (g2, zV), (g1, xc)] [rowC 63 8 u9 (ds ++ [(Value.int .i64 num :: yc)]), rowC 40 7 (.slice none 0 0) [], rowC 67 14 (.slice none 0 0) []] (fun h => (True) ∧ FsR h (f.take (k + 1)) (ds ++ [(Value.int .i64 num :: yc)])) w10) := Yq (by rw [rowC_snoc]; exact (HO10.read (MonoF.and MonoF.tt FsR.monoF) (fun hr => ⟨hr.1.1, by rw [HT.out]; exact FsR.snoc hr.1.2 hr.2⟩)).sub (List.sublist_cons_self _ _))
   clear HO9 HO HO10
   go_wp2_with fail
   go_roundw
   case rel => exact ⟨k + 1, _, _, by omega, by go_num, HOn, Yq (by simp [HDl.out])⟩
   case measure => simp [intOf]; omega
  ·obtain rfl : k = ns1 := by omega
   rw [List.take_of_length_le (by rw [← Hm1.out, Hn1.out]; exact Nat.le_refl _)] at HO
   obtain ⟨uf, hu⟩ : ∃ z, z = u := ⟨u, rfl⟩
   obtain ⟨fes, hds⟩ : ∃ z, z = ds := ⟨ds, rfl⟩
   subst hu hds
   have HOn := HO.read FsR.monoF (fun hr => hr.2)
   clear HO
   have HO := HOn
   clear HOn
   have q := (HC1.out _ _ (HO.at 2 rfl)).2.2.2.2.2.1
   clear hkn hlt HDl
   go_wp2_with fail
   clear q
   go_loopw [41] (fun i wr => ∃ (k : Nat) (u : Value) (ds : List (List Value)), k ≤ ns2 ∧ i = .int .i64 k ∧ Hid (OwnF F w [(g3, cOV kd n t uf r u (.slice none 0 0)), (g2, zV), (g1, xc)] [rowC 63 8 uf fes, rowC 40 7 u ds, rowC 67 14 (.slice none 0 0) []] (fun h => (FsR h f fes) ∧ LsR h (l.take k) ds) wr) ∧ Hid (ds.length = k)) (fun i _ => ns2 - (intOf i).toNat)
   case atStart => exact ⟨0, _, [], Nat.zero_le _, rfl, Yq (HO.read (MonoF.and FsR.monoF LsR.monoF) (fun hr => ⟨hr, by simp [LsR]⟩)), Yq rfl⟩
   case round =>
    obtain ⟨k, u, ds, hkn, rfl, HO2, HDl⟩ := hrel
    clear HO
    have HO := HO2.out
    clear HO2
    by_cases hlt : k < ns2
    ·have hks : k < le.length := by rw [Hn2.out]; exact hlt
     have hkf : k < l.length := by rw [← Hm2.out]; exact hks
     obtain ⟨b0, o0, hb0, hidx, hcell⟩ := FlatC.at (n := ns2) (cap := c2) (a := a2) (HX2.out.1.mono (fragE_le _ _)) (by decide) (i := k) hks Tryz.underlying24 osz7
     have hr : wr.rangeAt b0 o0 le[k] := range_below hcell HO.below hb0
     have rx := HX2.out.2.at hkf hks
     have HLx := Yq rx.len
     have HL : Hid (le[k].length = 7) := rx.len
     have H1 : Hid (∀ u ∈ le[k], u.oneCell' = true) := rx.ones
     have HT : Hid (l.take (k + 1) = l.take k ++ [l[k]]) := List.take_succ_eq_append_getElem hkf
     have HRg := Yq (HS2.out _ (List.getElem_mem hkf))
     have HX : Hid (VR (fragE w F) l[k] le[k]) := rx
     clear hcell rx
     generalize le[k] = ec at *
     generalize l[k] = x1 at *
     obtain ⟨st, hst⟩ : ∃ z, z = l.take k := ⟨_, rfl⟩
     rw [← hst] at HO HT
     clear hst hkf hks
     go_wp2_with (first
      | ((with_reducible refine atOp (.load 27 _) ?_); refine wpList_load_seg rfl 27 _ rfl _ _ rfl _ _ hr Tryz.underlying27 rfl (iC infoV HL) ?_)
      | ((with_reducible refine atOp (.alloc 27) ?_); refine wpList_alloc_ownF rfl 27 rfl (zV) zeroV HO ?_; clear HO; intro w4 g7 HO)
      | ((with_reducible refine atOp (.store 27 _ _) ?_); refine wpList_store_ownF 0 rfl 27 _ _ rfl _ 0 (ec) rfl rfl HO rfl (iC infoV HL) (by rw [HL.out]; decide) H1.out (patch_whole' _ _ (by rw [HL.out]; rfl)) ?_; clear HO hr hidx; intro w5 HO)
      | fail)
     replace HO : OwnF F w [(g7, ec), (g3, cOV kd n t uf r u (.slice none 0 0)), (g2, zV), (g1, xc)] [rowC 63 8 uf fes, rowC 40 7 u ds, rowC 67 14 (.slice none 0 0) []] (fun h => (FsR h f fes) ∧ LsR h st ds) w5.drew := HO.drew
     refine wp_region_G 7 (fun _ => True) (fun w' => Own w [(g7, ec), (g3, cOV kd n t uf r u (.slice none 0 0)), (g2, zV), (g1, xc)] w') (by kernel_rfl) trivial HO.own (fun _ => ?_)
     refine wpAnyG_take (i := 0) (v := .pointer (some ⟨g3, 5, none⟩)) rfl (by kernel_rfl) (fun _ _ _ h => h) (.inl ⟨by rfl, fun w hw => by go_simp⟩) (mkG HO.own) ?_
     refine fRefOfA8_74 ?_
     refine wpAnyG_take (i := 1) (v := u) rfl (by kernel_rfl) (fun _ _ _ h => h) (.inl ⟨by rfl, fun w hw => by have hc := (hw.2.at 1 rfl).cell (o := 5) (u := u) rfl; clear hw; go_simp⟩) (mkG HO.own) ?_
     refine fRefOfA8_74 ?_
     refine wpAnyG_take (i := 2) (v := .agg ec.toArray) rfl (by kernel_rfl) (fun _ _ _ h => h) (yieldsIf_load_mid (by rfl) 27 _ rfl g7 0 (by go_simp) ec _ (fun w h => (h.2.at 0 rfl).whole) Tryz.underlying27 rfl (iC infoV HLx)) (mkG HO.own) ?_
     refine fRefOfA8_74 ?_
     refine rdG (i := 3) (by kernel_rfl) rfl rfl (fun K hK => ?_)
     go_simp
     refine (ih (exF F _ _) x1 ec _ (HO.lt HFw.out) HRg.out.1 HRg.out.2 (HX.out.mono HO.args)).mono ?_
     rintro e w6 ⟨yc, rfl, hy, hbq⟩
     replace HO := (HO.call hbq).read (MonoF.and HO.mono (VR.monoF (x := x1) (c := yc))) (fun hr => ⟨hr, hy⟩)
     have HLv := Yq hy.len; have HOv := Yq hy.ones; clear hy hbq
     refine hK.out _ _ (mkG HO.own) (fun _ => ?_)
     clear hK
     refine fRefOfA8_74 ?_
     have HNl : Hid (yc.length = 7) := HLv
     have HN1 : Hid (∀ u ∈ yc, u.oneCell' = true) := HOv
     refine rdG (i := 4) (by kernel_rfl) rfl rfl (fun K hK => ?_)
     refine wp_buildSlice1 37 40 _ rfl yc (.agg yc.toArray) (by go_simp) Tryz.underlying37 (by rw [HNl.out]; exact info2RL) (by rw [HNl.out]; decide) (by rw [HNl.out]; decide) rfl ?_
     refine hK.out _ _ (mkG (HO.own.call ((Below.refl _ _).alloc (Nat.le_refl _) _))) (fun _ => ?_)
     clear hK
     refine fRefOfA8_74 ?_
     refine rdG (i := 5) (by kernel_rfl) rfl rfl (fun K hK => ?_)
     refine wp_append_ownF (L := [rowC 63 8 uf fes]) (M := [rowC 67 14 (.slice none 0 0) []]) T_RL _ _ rfl yc HO (by go_simp) (by go_simp) HNl.out HN1.out (by rw [HDl.out]; have := Hbd2.out; omega) ?_
     intro u9 w9 HO9 hone9
     refine hK.out _ _ (mkG HO9.own) (fun _ => ?_)
     clear hK
     refine fRefOfA8_74 ?_
     refine wpAnyG_take (i := 6) (v := .pointer (some ⟨g3, 5, none⟩)) rfl (by kernel_rfl) (fun _ _ _ h => h) (.inl ⟨by rfl, fun w hw => by go_simp⟩) (mkG HO9.own) ?_
     refine fRefOfA8_74 ?_
     refine rdG (i := 7) (by kernel_rfl) rfl rfl (fun K hK => ?_)
     refine wp_store_ownF 1 37 _ _ rfl g3 5 u9 [u9] (ds := cOV kd n t uf r u9 (.slice none 0 0)) (by go_simp) (by go_simp) (one_cells hone9) HO9 rfl info1RL (Nat.le_of_ble_eq_true rfl) (by simpa using hone9) rfl ?_
     intro w10 HO10
     refine hK.out _ _ (InvG.past trivial (by kernel_rfl)) (fun _ => ?_)
     clear hK
     refine fRefOfA8_74 ?_
     refine wpAnyG_done (by kernel_rfl) ?_ _
     have HOn : Hid (OwnF F w [(g3, cOV kd n t uf r u9 (.slice none 0 0)), (g2, zV), (g1, xc)] [rowC 63 8 uf fes, rowC 40 7 u9 (ds ++ [yc]), rowC 67 14 (.slice none 0 0) []] (fun h => (FsR h f fes) ∧ LsR h (l.take (k + 1)) (ds ++ [yc])) w10) := Yq (by rw [rowC_snoc]; exact (HO10.read (MonoF.and FsR.monoF LsR.monoF) (fun hr => ⟨hr.1.1, by rw [HT.out]; exact LsR.snoc hr.1.2 hr.2⟩)).sub (List.sublist_cons_self _ _))
     clear HO9 HO HO10
     go_wp2_with fail
     go_roundw
     case rel => exact ⟨k + 1, _, _, by omega, by go_num, HOn, Yq (by simp [HDl.out])⟩
     case measure => simp [intOf]; omega
    ·obtain rfl : k = ns2 := by omega
     rw [List.take_of_length_le (by rw [← Hm2.out, Hn2.out]; exact Nat.le_refl _)] at HO
     obtain ⟨ul, hu⟩ : ∃ z, z = u := ⟨u, rfl⟩
     obtain ⟨les, hds⟩ : ∃ z, z = ds := ⟨ds, rfl⟩
     subst hu hds
     have HOn := HO.read (MonoF.and FsR.monoF LsR.monoF) (fun hr => hr)
     clear HO
     have HO := HOn
     clear HOn
     have q := (HC1.out _ _ (HO.at 2 rfl)).2.2.2.2.2.2
     clear hkn hlt HDl
     go_wp2_with fail
     clear q
     go_loopw [56] (fun i wr => ∃ (k : Nat) (u : Value) (ds : List (List Value)), k ≤ ns3 ∧ i = .int .i64 k ∧ Hid (OwnF F w [(g3, cOV kd n t uf r ul u), (g2, zV), (g1, xc)] [rowC 63 8 uf fes, rowC 40 7 ul les, rowC 67 14 u ds] (fun h => ((FsR h f fes ∧ LsR h l les)) ∧ PsR h (ps.take k) ds) wr) ∧ Hid (ds.length = k)) (fun i _ => ns3 - (intOf i).toNat)
     case atStart => exact ⟨0, _, [], Nat.zero_le _, rfl, Yq (HO.read (MonoF.and (MonoF.and FsR.monoF LsR.monoF) PsR.monoF) (fun hr => ⟨hr, by simp [PsR]⟩)), Yq rfl⟩
     case round =>
      obtain ⟨k, u, ds, hkn, rfl, HO2, HDl⟩ := hrel
      clear HO
      have HO := HO2.out
      clear HO2
      by_cases hlt : k < ns3
      ·have hks : k < pe.length := by rw [Hn3.out]; exact hlt
       have hkf : k < ps.length := by rw [← Hm3.out]; exact hks
       obtain ⟨b0, o0, hb0, hidx, hcell⟩ := FlatC.at (n := ns3) (cap := c3) (a := a3) (HX3.out.1.mono (fragE_le _ _)) (by decide) (i := k) hks Tryz.underlying25 osz14
       have hr : wr.rangeAt b0 o0 pe[k] := range_below hcell HO.below hb0
       obtain ⟨kc, ec, hx, rk, rx⟩ := HX3.out.2.at hkf hks
       rw [hx] at hr
       have HLx := Yq rx.len; have HLk := Yq rk.len
       have HL : Hid ((kc ++ ec).length = 14) := by show _ = _; simp [rx.len, rk.len]
       have H1 := Yq (one_app rk.ones rx.ones)
       have HT : Hid (ps.take (k + 1) = ps.take k ++ [(ps[k].1, ps[k].2)]) := List.take_succ_eq_append_getElem hkf
       have HRg := Yq (HS3.out _ (List.getElem_mem hkf))
       have HX : Hid (VR (fragE w F) ps[k].2 ec) := rx
       have HK : Hid (VR (fragE w F) ps[k].1 kc) := rk
       clear hcell hx rx rk
       generalize ps[k].1 = v1 at *
       generalize ps[k].2 = x1 at *
       obtain ⟨st, hst⟩ : ∃ z, z = ps.take k := ⟨_, rfl⟩
       rw [← hst] at HO HT
       clear hst hkf hks
       go_wp2_with (first
        | ((with_reducible refine atOp (.load 65 _) ?_); refine wpList_load_seg rfl 65 _ rfl _ _ rfl _ _ hr Tryz.underlying65 rfl (iC oinfP HL) ?_)
        | ((with_reducible refine atOp (.alloc 65) ?_); refine wpList_alloc_ownF rfl 65 rfl ((zV ++ zV)) zeroVP HO ?_; clear HO; intro w4 g7 HO)
        | ((with_reducible refine atOp (.store 65 _ _) ?_); refine wpList_store_ownF 0 rfl 65 _ _ rfl _ 0 ((kc ++ ec)) rfl rfl HO rfl (iC oinfP HL) (by rw [HL.out]; decide) H1.out (patch_whole' _ _ (by rw [HL.out]; rfl)) ?_; clear HO hr hidx; intro w5 HO)
        | fail)
       replace HO : OwnF F w [(g7, (kc ++ ec)), (g3, cOV kd n t uf r ul u), (g2, zV), (g1, xc)] [rowC 63 8 uf fes, rowC 40 7 ul les, rowC 67 14 u ds] (fun h => ((FsR h f fes ∧ LsR h l les)) ∧ PsR h st ds) w5.drew := HO.drew
       refine wp_region_G 12 (fun _ => True) (fun w' => Own w [(g7, (kc ++ ec)), (g3, cOV kd n t uf r ul u), (g2, zV), (g1, xc)] w') (by kernel_rfl) trivial HO.own (fun _ => ?_)
       refine wpAnyG_take (i := 0) (v := .pointer (some ⟨g3, 6, none⟩)) rfl (by kernel_rfl) (fun _ _ _ h => h) (.inl ⟨by rfl, fun w hw => by go_simp⟩) (mkG HO.own) ?_
       refine fRefOfA13_74 ?_
       refine wpAnyG_take (i := 1) (v := u) rfl (by kernel_rfl) (fun _ _ _ h => h) (.inl ⟨by rfl, fun w hw => by have hc := (hw.2.at 1 rfl).cell (o := 6) (u := u) rfl; clear hw; go_simp⟩) (mkG HO.own) ?_
       refine fRefOfA13_74 ?_
       refine wpAnyG_take (i := 2) (v := .pointer (some ⟨g7, 0, none⟩)) rfl (by kernel_rfl) (fun _ _ _ h => h) (.inl ⟨by rfl, fun w hw => by go_simp⟩) (mkG HO.own) ?_
       refine fRefOfA13_74 ?_
       refine wpAnyG_take (i := 3) (v := .agg kc.toArray) rfl (by kernel_rfl) (fun _ _ _ h => h) (yieldsIf_load_mid (by rfl) 27 _ rfl g7 0 (by go_simp) kc _ (fun w h => (h.2.at 0 rfl).range (p := []) (q := kc) (r := ec) rfl rfl) Tryz.underlying27 rfl (iC infoV HLk)) (mkG HO.own) ?_
       refine fRefOfA13_74 ?_
       refine wpAnyG_take (i := 5) (v := .pointer (some ⟨g7, 7, none⟩)) rfl (by kernel_rfl) (fun _ _ _ h => h) (.inl ⟨by rfl, fun w hw => by go_simp⟩) (mkG HO.own) ?_
       refine fRefOfA13_74 ?_
       refine wpAnyG_take (i := 6) (v := .agg ec.toArray) rfl (by kernel_rfl) (fun _ _ _ h => h) (yieldsIf_load_mid (by rfl) 27 _ rfl g7 7 (by go_simp) ec _ (fun w h => (h.2.at 0 rfl).range (p := kc) (q := ec) (r := []) (by simp) HLk.out) Tryz.underlying27 rfl (iC infoV HLx)) (mkG HO.own) ?_
       refine fRefOfA13_74 ?_
       refine rdG (i := 4) (by kernel_rfl) rfl rfl (fun K hK => ?_)
       go_simp
       refine (ih (exF F _ _) v1 kc _ (HO.lt HFw.out) HRg.out.1.1 HRg.out.2.1 (HK.out.mono HO.args)).mono ?_
       rintro e w6 ⟨zc, rfl, hy, hbq⟩
       replace HO := (HO.call hbq).read (MonoF.and HO.mono (VR.monoF (x := v1) (c := zc))) (fun hr => ⟨hr, hy⟩)
       have HLw := Yq hy.len; have HOw := Yq hy.ones; clear hy hbq
       refine hK.out _ _ (mkG HO.own) (fun _ => ?_)
       clear hK
       refine fRefOfA13_74 ?_
       refine rdG (i := 7) (by kernel_rfl) rfl rfl (fun K hK => ?_)
       go_simp
       refine (ih (exF F _ _) x1 ec _ (HO.lt HFw.out) HRg.out.1.2 HRg.out.2.2 (HX.out.mono HO.args)).mono ?_
       rintro e w7 ⟨yc, rfl, hy, hbq⟩
       replace HO := (HO.call hbq).read (MonoF.and HO.mono (VR.monoF (x := x1) (c := yc))) (fun hr => ⟨hr, hy⟩)
       have HLv := Yq hy.len; have HOv := Yq hy.ones; clear hy hbq
       refine hK.out _ _ (mkG HO.own) (fun _ => ?_)
       clear hK
       refine fRefOfA13_74 ?_
       have HNl : Hid ((zc ++ yc).length = 14) := by show _ = _; simp [HLv.out, HLw.out]
       have HN1 := Yq (one_app HOw.out HOv.out)
       refine wpAnyG_take (i := 8) (v := .agg (zc ++ yc).toArray) rfl (by kernel_rfl) (fun _ _ _ h => h) (yieldsIf_build2 (by rfl) 67 _ _ rfl zc yc (.agg zc.toArray) (.agg yc.toArray) (by go_simp) (by go_simp) Tryz.underlying67 zeroRP rfl (by rw [HLw.out]) (iC infoRV HLw) (iC infoRV HLv) (by rw [HLw.out, HLv.out]; rfl) rfl rfl) (mkG HO.own) ?_
       refine fRefOfA13_74 ?_
       refine rdG (i := 9) (by kernel_rfl) rfl rfl (fun K hK => ?_)
       refine wp_buildSlice1 38 67 _ rfl (zc ++ yc) (.agg (zc ++ yc).toArray) (by go_simp) Tryz.underlying38 (by rw [HNl.out]; exact info2RP) (by rw [HNl.out]; decide) (by rw [HNl.out]; decide) rfl ?_
       refine hK.out _ _ (mkG (HO.own.call ((Below.refl _ _).alloc (Nat.le_refl _) _))) (fun _ => ?_)
       clear hK
       refine fRefOfA13_74 ?_
       refine rdG (i := 10) (by kernel_rfl) rfl rfl (fun K hK => ?_)
       refine wp_append_ownF (L := [rowC 63 8 uf fes, rowC 40 7 ul les]) (M := []) T_RP _ _ rfl (zc ++ yc) HO (by go_simp) (by go_simp) HNl.out HN1.out (by rw [HDl.out]; have := Hbd3.out; omega) ?_
       intro u9 w9 HO9 hone9
       refine hK.out _ _ (mkG HO9.own) (fun _ => ?_)
       clear hK
       refine fRefOfA13_74 ?_
       refine wpAnyG_take (i := 11) (v := .pointer (some ⟨g3, 6, none⟩)) rfl (by kernel_rfl) (fun _ _ _ h => h) (.inl ⟨by rfl, fun w hw => by go_simp⟩) (mkG HO9.own) ?_
       refine fRefOfA13_74 ?_
       refine rdG (i := 12) (by kernel_rfl) rfl rfl (fun K hK => ?_)
       refine wp_store_ownF 1 38 _ _ rfl g3 6 u9 [u9] (ds := cOV kd n t uf r ul u9) (by go_simp) (by go_simp) (one_cells hone9) HO9 rfl info1RP (Nat.le_of_ble_eq_true rfl) (by simpa using hone9) rfl ?_
       intro w10 HO10
       refine hK.out _ _ (InvG.past trivial (by kernel_rfl)) (fun _ => ?_)
       clear hK
       refine fRefOfA13_74 ?_
       refine wpAnyG_done (by kernel_rfl) ?_ _
       have HOn : Hid (OwnF F w [(g3, cOV kd n t uf r ul u9), (g2, zV), (g1, xc)] [rowC 63 8 uf fes, rowC 40 7 ul les, rowC 67 14 u9 (ds ++ [(zc ++ yc)])] (fun h => ((FsR h f fes ∧ LsR h l les)) ∧ PsR h (ps.take (k + 1)) (ds ++ [(zc ++ yc)])) w10) := Yq (by rw [rowC_snoc]; exact (HO10.read (MonoF.and (MonoF.and FsR.monoF LsR.monoF) PsR.monoF) (fun hr => ⟨hr.1.1.1, by rw [HT.out]; exact PsR.snoc hr.1.1.2 hr.1.2 hr.2⟩)).sub (List.sublist_cons_self _ _))
       clear HO9 HO HO10
       go_wp2_with fail
       go_roundw
       case rel => exact ⟨k + 1, _, _, by omega, by go_num, HOn, Yq (by simp [HDl.out])⟩
       case measure => simp [intOf]; omega
      ·obtain rfl : k = ns3 := by omega
       rw [List.take_of_length_le (by rw [← Hm3.out, Hn3.out]; exact Nat.le_refl _)] at HO
       have hone : ∀ c ∈ cOV kd n t uf r ul u, c.oneCell' = true := cOV_one (own_one (HO.rows.own (rowC 63 8 uf fes) (by simp))) (own_one (HO.rows.own (rowC 40 7 ul les) (by simp))) (own_one (HO.rows.own (rowC 67 14 u ds) (by simp)))
       have hER : ∀ (h : Frag), FlatC 8 h uf fes → FlatC 7 h ul les → FlatC 14 h u ds → (FsR h f fes ∧ LsR h l les) ∧ PsR h ps ds → VR h (.mk kd n t f r l ps) (cOV kd n t uf r ul u) := fun h q1 q2 q3 q4 => by
        rw [VR]; exact ⟨uf, ul, u, fes, les, ds, rfl, H2.out, ⟨q1, q2, q3⟩, q4.1.1, q4.1.2, q4.2⟩
       have HER := Yq hER
       have hlen : (cOV kd n t uf r ul u).length = 7 := rfl
       generalize hyc : cOV kd n t uf r ul u = yc at *
       have HLe := Yq hlen; have HOe := Yq hone
       have r3 := (HO.at 0 rfl).whole
       clear hyc hER hlen hone hkn hlt HDl
       go_wp2_with (first
        | ((with_reducible refine atOp (.load 40 _) ?_); refine wpList_load_seg rfl 40 _ rfl _ _ rfl _ _ r3 Tryz.underlying40 rfl (iC infoRV HLe) ?_)
        | ((with_reducible refine atOp (.store 40 _ _) ?_); refine wpList_store_ownF 1 rfl 40 _ _ rfl _ 0 yc rfl rfl HO rfl (iC infoRV HLe) (by rw [HLe.out]; decide) HOe.out (patch_whole' _ _ (by rw [HLe.out]; rfl)) ?_; clear HO r3; intro wE HO)
        | fail)
       have hd := HO.done
       refine bodyPost_ret (v := .agg yc.toArray) ?_ rfl ⟨yc, rfl, HER.out _ (HO.flat HFw.out (List.mem_cons_self ..) hd.1.1.sizes) (HO.flat HFw.out (List.mem_cons_of_mem _ (List.mem_cons_self ..)) hd.1.2.sizes7) (HO.flat HFw.out (List.mem_cons_of_mem _ (List.mem_cons_of_mem _ (List.mem_cons_self ..))) hd.2.sizes) hd, HO.below⟩
       exact results_blk rfl _ _ g2 yc rfl (HO.at 1 rfl) _ Tryz.underlying40 rfl (iC infoRV HLe)
theorem rof_all : ∀ N, ROfAt N
 | 0 => fun F x xc w hF h => absurd h (Nat.not_lt_zero _)
 | N + 1 => rof_succ N (rof_all N)
theorem rof_any (F : List (Option Nat)) (x : V) (xc : List Value) (w : World) (hF : ∀ k, some k ∈ F → k < w.heap.size) (hb : vmx x ≤ 90000) (hx : VR (fragE w F) x xc) :
  Calls Tryz.prog 7 #[.agg xc.toArray] w (RetRV F w x) := rof_all _ F x xc w hF (Nat.lt_succ_self _) hb hx
end Go.Proofs.YtebekgdjknenlaaGreatDoor
