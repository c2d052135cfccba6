/- The document's order of values, walked. -/
import Derived.Test.YtebekgdjknenlaaGreatDoorGpAI
import Derived.Deep.RegionLaw
set_option maxRecDepth 100000
set_option maxHeartbeats 4000000
set_option linter.unusedVariables false
set_option linter.unusedSimpArgs false
namespace Go.Proofs.YtebekgdjknenlaaGreatDoor
open Go.RowKit
open Val (V cmp cmpF cmpL cmpP ocmp orr scmp lexN v0)
theorem wpStill_load_seg0 {P : Program} {ops : Array Oper} {rest : List Oper} {op : Oper} {a : Act} {w : World} {Q : Act → Prop} (hgd : Region.wanted op (yielded ops a.tmps) = true) (ty : TypeId) (x : Operand) (ho : op.op = .load ty x)
  (b o : Nat) (hx : a.eval x = .pointer (some ⟨b, o, none⟩)) (cs : List Value) (d : TypeDesc) (hc : w.rangeAt b o cs)
  (hu : P.underlying ty = some d) (hd : d.isRow = true) (hi : (P.info? ty).map (·.size) = some cs.length)
  (h : wpStill P ops w Q rest (a.put op.dst (.agg cs.toArray))) : wpStill P ops w Q (op :: rest) a := by
 unfold wpStill
 rw [if_pos hgd]
 unfold Oper.still execOp
 simp only [ho, hx, Instr.loadAt, Instr.sureAddr, Sem.run_bind, Sem.run_pure, Result.andThen_ok, run_loadVar_mid w b o ty cs d hc hu hd hi]
 exact ⟨rfl, h⟩
theorem zeroRV : (Tryz.prog.info? 40).map (·.zero) = some (some (.agg zV.toArray)) := by kernel_rfl
theorem infoRV : (Tryz.prog.info? 40).map (·.size) = some 7 := by kernel_rfl
theorem infoRF : (Tryz.prog.info? 63).map (·.size) = some 8 := by kernel_rfl
theorem infoRP : (Tryz.prog.info? 67).map (·.size) = some 14 := by kernel_rfl
theorem sizeRF (w : World) : (Go.sizeOf (Tryz.prog.elem 36)).run Tryz.prog w = .ok 8 w := by kernel_rfl
theorem sizeRL (w : World) : (Go.sizeOf (Tryz.prog.elem 37)).run Tryz.prog w = .ok 7 w := by kernel_rfl
theorem sizeRP (w : World) : (Go.sizeOf (Tryz.prog.elem 38)).run Tryz.prog w = .ok 14 w := by kernel_rfl
theorem rnum_any (a b : Int) (w : World) : Calls Tryz.prog 54 #[.int .u64 a, .int .u64 b] w fun e w' => e = .returned (.int .i64 (ocmp a b)) ∧ w = w' := by
 by_cases h1 : a < b
 ·go_enter Tryz.func54, Tryz.ntmps54
  go_wp2
  go_ret
  exact ⟨ret_int (by
   unfold ocmp
   repeat' split
   all_goals omega), rfl⟩
 ·by_cases h2 : b < a
  ·go_enter Tryz.func54, Tryz.ntmps54
   go_wp2
   go_ret
   exact ⟨ret_int (by
   unfold ocmp
   repeat' split
   all_goals omega), rfl⟩
  ·go_enter Tryz.func54, Tryz.ntmps54
   go_wp2
   go_ret
   exact ⟨ret_int (by
   unfold ocmp
   repeat' split
   all_goals omega), rfl⟩
theorem rtext_any (a b : ByteArray) (w : World) : Calls Tryz.prog 55 #[.string a, .string b] w fun e w' => e = .returned (.int .i64 (scmp a b)) ∧ w = w' := by
 cases h1 : Op.bytesLess a.toList b.toList with
 | true =>
  have H1 := Yq h1
  go_enter Tryz.func55, Tryz.ntmps55
  go_wp2
  go_ret
  exact ⟨ret_int (by simp [scmp, H1.out]), rfl⟩
 | false =>
  have H1 := Yq h1
  cases h2 : (a.toList == b.toList) with
  | true =>
   have h3 : a.toList = b.toList := by simpa using h2
   have H3 := Yq h3; clear h3
   go_enter Tryz.func55, Tryz.ntmps55
   go_wp2
   go_ret
   exact ⟨ret_int (by unfold scmp; rw [H1.out, if_neg (by simp), if_pos H3.out]), rfl⟩
  | false =>
   have h3 : ¬ a.toList = b.toList := by simpa using h2
   have H3 := Yq h3; clear h3
   go_enter Tryz.func55, Tryz.ntmps55
   go_wp2
   go_ret
   exact ⟨ret_int (by simp [scmp, H1.out, H3.out]), rfl⟩
def RCmpAt (N : Nat) : Prop := ∀ (x y : V) (xc yc : List Value) (w : World), SizeOf.sizeOf x < N → VR (frag w) x xc → VR (frag w) y yc →
 Calls Tryz.prog 26 #[.agg xc.toArray, .agg yc.toArray] w fun e w' => e = .returned (.int .i64 (cmp x y)) ∧ Below w.heap.size w w'
theorem lex_orr {a b : Int} (h : a = 0) : orr a b = b := by unfold orr; rw [if_pos h]
theorem orr_ne {a b : Int} (h : a ≠ 0) : orr a b = a := by unfold orr; rw [if_neg h]
theorem lex_ocmp {c : Nat → Int} {n m k : Nat} (hk : k ≤ n ∧ k ≤ m) (he : n ≤ k ∨ m ≤ k) (h : ∀ j, j < k → c j = 0) : lexN c n m = ocmp (n : Int) (m : Int) := by
 rw [Val.lexN_end c n m (fun j h1 h2 => h j (by omega))]
 unfold ocmp
 by_cases h1 : n < m
 ·rw [if_pos h1, if_pos (by omega)]
 ·rw [if_neg h1, if_neg (show ¬ ((n : Int) < m) by omega)]
  by_cases h2 : m < n
  ·rw [if_pos h2, if_pos (by omega)]
  ·rw [if_neg h2, if_neg (by omega)]
theorem rcmp_lt (xk yk xn yn : Int) (xt yt xr yr : ByteArray) (xa1 xa2 xa3 ya1 ya2 ya3 : Option Addr) (xc1 xc2 xc3 yc1 yc2 yc3 : Nat) (xfe xle xpe yfe yle ype : List (List Value)) (w : World) (h : xk < yk) :
  Calls Tryz.prog 26 #[.agg ([.int .i64 xk, .int .u64 xn, .string xt, .slice xa1 xfe.length xc1, .string xr, .slice xa2 xle.length xc2, .slice xa3 xpe.length xc3] : List Value).toArray, .agg ([.int .i64 yk, .int .u64 yn, .string yt, .slice ya1 yfe.length yc1, .string yr, .slice ya2 yle.length yc2, .slice ya3 ype.length yc3] : List Value).toArray] w fun e w' => e = .returned (.int .i64 (ocmp xk yk)) ∧ Below w.heap.size w w' := by
 have HCX := Yq (fun (w2 : World) (g : Nat) (hB : Blk w2 g [.int .i64 xk, .int .u64 xn, .string xt, .slice xa1 xfe.length xc1, .string xr, .slice xa2 xle.length xc2, .slice xa3 xpe.length xc3]) => (show w2.cell? ⟨g, 0, none⟩ = some (.int .i64 xk) ∧ w2.cell? ⟨g, 1, none⟩ = some (.int .u64 xn) ∧ w2.cell? ⟨g, 2, none⟩ = some (.string xt) ∧ w2.cell? ⟨g, 3, none⟩ = some (.slice xa1 xfe.length xc1) ∧ w2.cell? ⟨g, 4, none⟩ = some (.string xr) ∧ w2.cell? ⟨g, 5, none⟩ = some (.slice xa2 xle.length xc2) ∧ w2.cell? ⟨g, 6, none⟩ = some (.slice xa3 xpe.length xc3) from ⟨hB.cell rfl, hB.cell rfl, hB.cell rfl, hB.cell rfl, hB.cell rfl, hB.cell rfl, hB.cell rfl⟩))
 have HCY := Yq (fun (w2 : World) (g : Nat) (hB : Blk w2 g [.int .i64 yk, .int .u64 yn, .string yt, .slice ya1 yfe.length yc1, .string yr, .slice ya2 yle.length yc2, .slice ya3 ype.length yc3]) => (show w2.cell? ⟨g, 0, none⟩ = some (.int .i64 yk) ∧ w2.cell? ⟨g, 1, none⟩ = some (.int .u64 yn) ∧ w2.cell? ⟨g, 2, none⟩ = some (.string yt) ∧ w2.cell? ⟨g, 3, none⟩ = some (.slice ya1 yfe.length yc1) ∧ w2.cell? ⟨g, 4, none⟩ = some (.string yr) ∧ w2.cell? ⟨g, 5, none⟩ = some (.slice ya2 yle.length yc2) ∧ w2.cell? ⟨g, 6, none⟩ = some (.slice ya3 ype.length yc3) from ⟨hB.cell rfl, hB.cell rfl, hB.cell rfl, hB.cell rfl, hB.cell rfl, hB.cell rfl, hB.cell rfl⟩))
 generalize hxc : ([.int .i64 xk, .int .u64 xn, .string xt, .slice xa1 xfe.length xc1, .string xr, .slice xa2 xle.length xc2, .slice xa3 xpe.length xc3] : List Value) = xc at *
 generalize hyc : ([.int .i64 yk, .int .u64 yn, .string yt, .slice ya1 yfe.length yc1, .string yr, .slice ya2 yle.length yc2, .slice ya3 ype.length yc3] : List Value) = yc at *
 clear hxc hyc
 go_enter Tryz.func26, Tryz.ntmps26
 go_wp2_with (first
  | (refine wpList_box_lay rfl 40 _ rfl xc rfl ?_; (intro w2 gx hgx hBx hb2))
  | (refine wpList_box_lay rfl 40 _ rfl yc rfl ?_; (intro w3 gy hgy hBy hb3; replace hBx := hBx.below hb3 hBx.lt; have hb0 := hb2.trans (hb3.mono hb2.size); clear hb2 hb3 hgx hgy; obtain ⟨x0, x1, x2, x3, x4, x5, x6⟩ := HCX.out _ _ hBx; obtain ⟨y0, y1, y2, y3, y4, y5, y6⟩ := HCY.out _ _ hBy)))
 go_ret
 exact ⟨ret_int (by unfold ocmp; rw [if_pos h]), hb0⟩
theorem rcmp_gt (xk yk xn yn : Int) (xt yt xr yr : ByteArray) (xa1 xa2 xa3 ya1 ya2 ya3 : Option Addr) (xc1 xc2 xc3 yc1 yc2 yc3 : Nat) (xfe xle xpe yfe yle ype : List (List Value)) (w : World) (h : yk < xk) :
  Calls Tryz.prog 26 #[.agg ([.int .i64 xk, .int .u64 xn, .string xt, .slice xa1 xfe.length xc1, .string xr, .slice xa2 xle.length xc2, .slice xa3 xpe.length xc3] : List Value).toArray, .agg ([.int .i64 yk, .int .u64 yn, .string yt, .slice ya1 yfe.length yc1, .string yr, .slice ya2 yle.length yc2, .slice ya3 ype.length yc3] : List Value).toArray] w fun e w' => e = .returned (.int .i64 (ocmp xk yk)) ∧ Below w.heap.size w w' := by
 have HCX := Yq (fun (w2 : World) (g : Nat) (hB : Blk w2 g [.int .i64 xk, .int .u64 xn, .string xt, .slice xa1 xfe.length xc1, .string xr, .slice xa2 xle.length xc2, .slice xa3 xpe.length xc3]) => (show w2.cell? ⟨g, 0, none⟩ = some (.int .i64 xk) ∧ w2.cell? ⟨g, 1, none⟩ = some (.int .u64 xn) ∧ w2.cell? ⟨g, 2, none⟩ = some (.string xt) ∧ w2.cell? ⟨g, 3, none⟩ = some (.slice xa1 xfe.length xc1) ∧ w2.cell? ⟨g, 4, none⟩ = some (.string xr) ∧ w2.cell? ⟨g, 5, none⟩ = some (.slice xa2 xle.length xc2) ∧ w2.cell? ⟨g, 6, none⟩ = some (.slice xa3 xpe.length xc3) from ⟨hB.cell rfl, hB.cell rfl, hB.cell rfl, hB.cell rfl, hB.cell rfl, hB.cell rfl, hB.cell rfl⟩))
 have HCY := Yq (fun (w2 : World) (g : Nat) (hB : Blk w2 g [.int .i64 yk, .int .u64 yn, .string yt, .slice ya1 yfe.length yc1, .string yr, .slice ya2 yle.length yc2, .slice ya3 ype.length yc3]) => (show w2.cell? ⟨g, 0, none⟩ = some (.int .i64 yk) ∧ w2.cell? ⟨g, 1, none⟩ = some (.int .u64 yn) ∧ w2.cell? ⟨g, 2, none⟩ = some (.string yt) ∧ w2.cell? ⟨g, 3, none⟩ = some (.slice ya1 yfe.length yc1) ∧ w2.cell? ⟨g, 4, none⟩ = some (.string yr) ∧ w2.cell? ⟨g, 5, none⟩ = some (.slice ya2 yle.length yc2) ∧ w2.cell? ⟨g, 6, none⟩ = some (.slice ya3 ype.length yc3) from ⟨hB.cell rfl, hB.cell rfl, hB.cell rfl, hB.cell rfl, hB.cell rfl, hB.cell rfl, hB.cell rfl⟩))
 have h1 : ¬ xk < yk := by omega
 generalize hxc : ([.int .i64 xk, .int .u64 xn, .string xt, .slice xa1 xfe.length xc1, .string xr, .slice xa2 xle.length xc2, .slice xa3 xpe.length xc3] : List Value) = xc at *
 generalize hyc : ([.int .i64 yk, .int .u64 yn, .string yt, .slice ya1 yfe.length yc1, .string yr, .slice ya2 yle.length yc2, .slice ya3 ype.length yc3] : List Value) = yc at *
 clear hxc hyc
 go_enter Tryz.func26, Tryz.ntmps26
 go_wp2_with (first
  | (refine wpList_box_lay rfl 40 _ rfl xc rfl ?_; (intro w2 gx hgx hBx hb2))
  | (refine wpList_box_lay rfl 40 _ rfl yc rfl ?_; (intro w3 gy hgy hBy hb3; replace hBx := hBx.below hb3 hBx.lt; have hb0 := hb2.trans (hb3.mono hb2.size); clear hb2 hb3 hgx hgy; obtain ⟨x0, x1, x2, x3, x4, x5, x6⟩ := HCX.out _ _ hBx; obtain ⟨y0, y1, y2, y3, y4, y5, y6⟩ := HCY.out _ _ hBy)))
 go_ret
 exact ⟨ret_int (by unfold ocmp; rw [if_neg (by omega), if_pos h]), hb0⟩
theorem rcmp_none (xk yk xn yn : Int) (xt yt xr yr : ByteArray) (xa1 xa2 xa3 ya1 ya2 ya3 : Option Addr) (xc1 xc2 xc3 yc1 yc2 yc3 : Nat) (xfe xle xpe yfe yle ype : List (List Value)) (w : World) (h1 : ¬ xk = 1) (h2 : ¬ xk = 2) (h3 : ¬ xk = 3) (h4 : ¬ xk = 4) (h5 : ¬ xk = 5) :
  Calls Tryz.prog 26 #[.agg ([.int .i64 xk, .int .u64 xn, .string xt, .slice xa1 xfe.length xc1, .string xr, .slice xa2 xle.length xc2, .slice xa3 xpe.length xc3] : List Value).toArray, .agg ([.int .i64 xk, .int .u64 yn, .string yt, .slice ya1 yfe.length yc1, .string yr, .slice ya2 yle.length yc2, .slice ya3 ype.length yc3] : List Value).toArray] w fun e w' => e = .returned (.int .i64 (0)) ∧ Below w.heap.size w w' := by
 have HCX := Yq (fun (w2 : World) (g : Nat) (hB : Blk w2 g [.int .i64 xk, .int .u64 xn, .string xt, .slice xa1 xfe.length xc1, .string xr, .slice xa2 xle.length xc2, .slice xa3 xpe.length xc3]) => (show w2.cell? ⟨g, 0, none⟩ = some (.int .i64 xk) ∧ w2.cell? ⟨g, 1, none⟩ = some (.int .u64 xn) ∧ w2.cell? ⟨g, 2, none⟩ = some (.string xt) ∧ w2.cell? ⟨g, 3, none⟩ = some (.slice xa1 xfe.length xc1) ∧ w2.cell? ⟨g, 4, none⟩ = some (.string xr) ∧ w2.cell? ⟨g, 5, none⟩ = some (.slice xa2 xle.length xc2) ∧ w2.cell? ⟨g, 6, none⟩ = some (.slice xa3 xpe.length xc3) from ⟨hB.cell rfl, hB.cell rfl, hB.cell rfl, hB.cell rfl, hB.cell rfl, hB.cell rfl, hB.cell rfl⟩))
 have HCY := Yq (fun (w2 : World) (g : Nat) (hB : Blk w2 g [.int .i64 xk, .int .u64 yn, .string yt, .slice ya1 yfe.length yc1, .string yr, .slice ya2 yle.length yc2, .slice ya3 ype.length yc3]) => (show w2.cell? ⟨g, 0, none⟩ = some (.int .i64 xk) ∧ w2.cell? ⟨g, 1, none⟩ = some (.int .u64 yn) ∧ w2.cell? ⟨g, 2, none⟩ = some (.string yt) ∧ w2.cell? ⟨g, 3, none⟩ = some (.slice ya1 yfe.length yc1) ∧ w2.cell? ⟨g, 4, none⟩ = some (.string yr) ∧ w2.cell? ⟨g, 5, none⟩ = some (.slice ya2 yle.length yc2) ∧ w2.cell? ⟨g, 6, none⟩ = some (.slice ya3 ype.length yc3) from ⟨hB.cell rfl, hB.cell rfl, hB.cell rfl, hB.cell rfl, hB.cell rfl, hB.cell rfl, hB.cell rfl⟩))
 generalize hxc : ([.int .i64 xk, .int .u64 xn, .string xt, .slice xa1 xfe.length xc1, .string xr, .slice xa2 xle.length xc2, .slice xa3 xpe.length xc3] : List Value) = xc at *
 generalize hyc : ([.int .i64 xk, .int .u64 yn, .string yt, .slice ya1 yfe.length yc1, .string yr, .slice ya2 yle.length yc2, .slice ya3 ype.length yc3] : List Value) = yc at *
 clear hxc hyc
 go_enter Tryz.func26, Tryz.ntmps26
 go_wp2_with (first
  | (refine wpList_box_lay rfl 40 _ rfl xc rfl ?_; (intro w2 gx hgx hBx hb2))
  | (refine wpList_box_lay rfl 40 _ rfl yc rfl ?_; (intro w3 gy hgy hBy hb3; replace hBx := hBx.below hb3 hBx.lt; have hb0 := hb2.trans (hb3.mono hb2.size); clear hb2 hb3 hgx hgy; obtain ⟨x0, x1, x2, x3, x4, x5, x6⟩ := HCX.out _ _ hBx; obtain ⟨y0, y1, y2, y3, y4, y5, y6⟩ := HCY.out _ _ hBy)))
 go_ret
 exact ⟨rfl, hb0⟩
theorem rcmp_num (xk yk xn yn : Int) (xt yt xr yr : ByteArray) (xa1 xa2 xa3 ya1 ya2 ya3 : Option Addr) (xc1 xc2 xc3 yc1 yc2 yc3 : Nat) (xfe xle xpe yfe yle ype : List (List Value)) (w : World)  :
  Calls Tryz.prog 26 #[.agg ([.int .i64 1, .int .u64 xn, .string xt, .slice xa1 xfe.length xc1, .string xr, .slice xa2 xle.length xc2, .slice xa3 xpe.length xc3] : List Value).toArray, .agg ([.int .i64 1, .int .u64 yn, .string yt, .slice ya1 yfe.length yc1, .string yr, .slice ya2 yle.length yc2, .slice ya3 ype.length yc3] : List Value).toArray] w fun e w' => e = .returned (.int .i64 (ocmp xn yn)) ∧ Below w.heap.size w w' := by
 have HCX := Yq (fun (w2 : World) (g : Nat) (hB : Blk w2 g [.int .i64 1, .int .u64 xn, .string xt, .slice xa1 xfe.length xc1, .string xr, .slice xa2 xle.length xc2, .slice xa3 xpe.length xc3]) => (show w2.cell? ⟨g, 0, none⟩ = some (.int .i64 1) ∧ w2.cell? ⟨g, 1, none⟩ = some (.int .u64 xn) ∧ w2.cell? ⟨g, 2, none⟩ = some (.string xt) ∧ w2.cell? ⟨g, 3, none⟩ = some (.slice xa1 xfe.length xc1) ∧ w2.cell? ⟨g, 4, none⟩ = some (.string xr) ∧ w2.cell? ⟨g, 5, none⟩ = some (.slice xa2 xle.length xc2) ∧ w2.cell? ⟨g, 6, none⟩ = some (.slice xa3 xpe.length xc3) from ⟨hB.cell rfl, hB.cell rfl, hB.cell rfl, hB.cell rfl, hB.cell rfl, hB.cell rfl, hB.cell rfl⟩))
 have HCY := Yq (fun (w2 : World) (g : Nat) (hB : Blk w2 g [.int .i64 1, .int .u64 yn, .string yt, .slice ya1 yfe.length yc1, .string yr, .slice ya2 yle.length yc2, .slice ya3 ype.length yc3]) => (show w2.cell? ⟨g, 0, none⟩ = some (.int .i64 1) ∧ w2.cell? ⟨g, 1, none⟩ = some (.int .u64 yn) ∧ w2.cell? ⟨g, 2, none⟩ = some (.string yt) ∧ w2.cell? ⟨g, 3, none⟩ = some (.slice ya1 yfe.length yc1) ∧ w2.cell? ⟨g, 4, none⟩ = some (.string yr) ∧ w2.cell? ⟨g, 5, none⟩ = some (.slice ya2 yle.length yc2) ∧ w2.cell? ⟨g, 6, none⟩ = some (.slice ya3 ype.length yc3) from ⟨hB.cell rfl, hB.cell rfl, hB.cell rfl, hB.cell rfl, hB.cell rfl, hB.cell rfl, hB.cell rfl⟩))
 generalize hxc : ([.int .i64 1, .int .u64 xn, .string xt, .slice xa1 xfe.length xc1, .string xr, .slice xa2 xle.length xc2, .slice xa3 xpe.length xc3] : List Value) = xc at *
 generalize hyc : ([.int .i64 1, .int .u64 yn, .string yt, .slice ya1 yfe.length yc1, .string yr, .slice ya2 yle.length yc2, .slice ya3 ype.length yc3] : List Value) = yc at *
 clear hxc hyc
 go_enter Tryz.func26, Tryz.ntmps26
 go_wp2_with (first
  | (refine wpList_box_lay rfl 40 _ rfl xc rfl ?_; (intro w2 gx hgx hBx hb2))
  | (refine wpList_box_lay rfl 40 _ rfl yc rfl ?_; (intro w3 gy hgy hBy hb3; replace hBx := hBx.below hb3 hBx.lt; have hb0 := hb2.trans (hb3.mono hb2.size); clear hb2 hb3 hgx hgy; obtain ⟨x0, x1, x2, x3, x4, x5, x6⟩ := HCX.out _ _ hBx; obtain ⟨y0, y1, y2, y3, y4, y5, y6⟩ := HCY.out _ _ hBy))
  | (go_at_call 54; (with_reducible refine (rnum_any _ _ _).mono ?_); rintro e w4 ⟨rfl, rfl⟩))
 go_ret
 exact ⟨rfl, hb0⟩
theorem rcmp_text (xk yk xn yn : Int) (xt yt xr yr : ByteArray) (xa1 xa2 xa3 ya1 ya2 ya3 : Option Addr) (xc1 xc2 xc3 yc1 yc2 yc3 : Nat) (xfe xle xpe yfe yle ype : List (List Value)) (w : World)  :
  Calls Tryz.prog 26 #[.agg ([.int .i64 2, .int .u64 xn, .string xt, .slice xa1 xfe.length xc1, .string xr, .slice xa2 xle.length xc2, .slice xa3 xpe.length xc3] : List Value).toArray, .agg ([.int .i64 2, .int .u64 yn, .string yt, .slice ya1 yfe.length yc1, .string yr, .slice ya2 yle.length yc2, .slice ya3 ype.length yc3] : List Value).toArray] w fun e w' => e = .returned (.int .i64 (scmp xt yt)) ∧ Below w.heap.size w w' := by
 have HCX := Yq (fun (w2 : World) (g : Nat) (hB : Blk w2 g [.int .i64 2, .int .u64 xn, .string xt, .slice xa1 xfe.length xc1, .string xr, .slice xa2 xle.length xc2, .slice xa3 xpe.length xc3]) => (show w2.cell? ⟨g, 0, none⟩ = some (.int .i64 2) ∧ w2.cell? ⟨g, 1, none⟩ = some (.int .u64 xn) ∧ w2.cell? ⟨g, 2, none⟩ = some (.string xt) ∧ w2.cell? ⟨g, 3, none⟩ = some (.slice xa1 xfe.length xc1) ∧ w2.cell? ⟨g, 4, none⟩ = some (.string xr) ∧ w2.cell? ⟨g, 5, none⟩ = some (.slice xa2 xle.length xc2) ∧ w2.cell? ⟨g, 6, none⟩ = some (.slice xa3 xpe.length xc3) from ⟨hB.cell rfl, hB.cell rfl, hB.cell rfl, hB.cell rfl, hB.cell rfl, hB.cell rfl, hB.cell rfl⟩))
 have HCY := Yq (fun (w2 : World) (g : Nat) (hB : Blk w2 g [.int .i64 2, .int .u64 yn, .string yt, .slice ya1 yfe.length yc1, .string yr, .slice ya2 yle.length yc2, .slice ya3 ype.length yc3]) => (show w2.cell? ⟨g, 0, none⟩ = some (.int .i64 2) ∧ w2.cell? ⟨g, 1, none⟩ = some (.int .u64 yn) ∧ w2.cell? ⟨g, 2, none⟩ = some (.string yt) ∧ w2.cell? ⟨g, 3, none⟩ = some (.slice ya1 yfe.length yc1) ∧ w2.cell? ⟨g, 4, none⟩ = some (.string yr) ∧ w2.cell? ⟨g, 5, none⟩ = some (.slice ya2 yle.length yc2) ∧ w2.cell? ⟨g, 6, none⟩ = some (.slice ya3 ype.length yc3) from ⟨hB.cell rfl, hB.cell rfl, hB.cell rfl, hB.cell rfl, hB.cell rfl, hB.cell rfl, hB.cell rfl⟩))
 generalize hxc : ([.int .i64 2, .int .u64 xn, .string xt, .slice xa1 xfe.length xc1, .string xr, .slice xa2 xle.length xc2, .slice xa3 xpe.length xc3] : List Value) = xc at *
 generalize hyc : ([.int .i64 2, .int .u64 yn, .string yt, .slice ya1 yfe.length yc1, .string yr, .slice ya2 yle.length yc2, .slice ya3 ype.length yc3] : List Value) = yc at *
 clear hxc hyc
 go_enter Tryz.func26, Tryz.ntmps26
 go_wp2_with (first
  | (refine wpList_box_lay rfl 40 _ rfl xc rfl ?_; (intro w2 gx hgx hBx hb2))
  | (refine wpList_box_lay rfl 40 _ rfl yc rfl ?_; (intro w3 gy hgy hBy hb3; replace hBx := hBx.below hb3 hBx.lt; have hb0 := hb2.trans (hb3.mono hb2.size); clear hb2 hb3 hgx hgy; obtain ⟨x0, x1, x2, x3, x4, x5, x6⟩ := HCX.out _ _ hBx; obtain ⟨y0, y1, y2, y3, y4, y5, y6⟩ := HCY.out _ _ hBy))
  | (go_at_call 55; (with_reducible refine (rtext_any _ _ _).mono ?_); rintro e w4 ⟨rfl, rfl⟩))
 go_ret
 exact ⟨rfl, hb0⟩
theorem rcmp_msg (N : Nat) (ih : RCmpAt N) (fs gs : List (Int × V)) (hs : ∀ e ∈ fs, SizeOf.sizeOf e.2 < N) (xn yn : Int) (xt yt xr yr : ByteArray) (xa1 xa2 xa3 ya1 ya2 ya3 : Option Addr) (xc1 xc2 xc3 yc1 yc2 yc3 : Nat) (xfe xle xpe yfe yle ype : List (List Value)) (w : World)
  (hx : FlatC 8 (frag w) (.slice xa1 xfe.length xc1) xfe) (hxr : FsR (frag w) fs xfe) (hy : FlatC 8 (frag w) (.slice ya1 yfe.length yc1) yfe) (hyr : FsR (frag w) gs yfe) :
  Calls Tryz.prog 26 #[.agg ([.int .i64 3, .int .u64 xn, .string xt, .slice xa1 xfe.length xc1, .string xr, .slice xa2 xle.length xc2, .slice xa3 xpe.length xc3] : List Value).toArray, .agg ([.int .i64 3, .int .u64 yn, .string yt, .slice ya1 yfe.length yc1, .string yr, .slice ya2 yle.length yc2, .slice ya3 ype.length yc3] : List Value).toArray] w fun e w' => e = .returned (.int .i64 (orr (cmpF fs gs) (scmp xr yr))) ∧ Below w.heap.size w w' := by
 have HCX := Yq (fun (w2 : World) (g : Nat) (hB : Blk w2 g [.int .i64 3, .int .u64 xn, .string xt, .slice xa1 xfe.length xc1, .string xr, .slice xa2 xle.length xc2, .slice xa3 xpe.length xc3]) => (show w2.cell? ⟨g, 0, none⟩ = some (.int .i64 3) ∧ w2.cell? ⟨g, 1, none⟩ = some (.int .u64 xn) ∧ w2.cell? ⟨g, 2, none⟩ = some (.string xt) ∧ w2.cell? ⟨g, 3, none⟩ = some (.slice xa1 xfe.length xc1) ∧ w2.cell? ⟨g, 4, none⟩ = some (.string xr) ∧ w2.cell? ⟨g, 5, none⟩ = some (.slice xa2 xle.length xc2) ∧ w2.cell? ⟨g, 6, none⟩ = some (.slice xa3 xpe.length xc3) from ⟨hB.cell rfl, hB.cell rfl, hB.cell rfl, hB.cell rfl, hB.cell rfl, hB.cell rfl, hB.cell rfl⟩))
 have HCY := Yq (fun (w2 : World) (g : Nat) (hB : Blk w2 g [.int .i64 3, .int .u64 yn, .string yt, .slice ya1 yfe.length yc1, .string yr, .slice ya2 yle.length yc2, .slice ya3 ype.length yc3]) => (show w2.cell? ⟨g, 0, none⟩ = some (.int .i64 3) ∧ w2.cell? ⟨g, 1, none⟩ = some (.int .u64 yn) ∧ w2.cell? ⟨g, 2, none⟩ = some (.string yt) ∧ w2.cell? ⟨g, 3, none⟩ = some (.slice ya1 yfe.length yc1) ∧ w2.cell? ⟨g, 4, none⟩ = some (.string yr) ∧ w2.cell? ⟨g, 5, none⟩ = some (.slice ya2 yle.length yc2) ∧ w2.cell? ⟨g, 6, none⟩ = some (.slice ya3 ype.length yc3) from ⟨hB.cell rfl, hB.cell rfl, hB.cell rfl, hB.cell rfl, hB.cell rfl, hB.cell rfl, hB.cell rfl⟩))
 have hlx := hxr.len; have hly := hyr.len
 have hmx : xfe.length ≤ 9223372036854775807 := by obtain ⟨_, _, e, h1, h2, _⟩ := hx; unfold maxLen at h2; omega
 have hmy : yfe.length ≤ 9223372036854775807 := by obtain ⟨_, _, e, h1, h2, _⟩ := hy; unfold maxLen at h2; omega
 have Hlx := Yq hlx; have Hly := Yq hly
 have HX := Yq (And.intro hx hxr); have HY := Yq (And.intro hy hyr)
 have HS := Yq hs
 have HL := Yq (Val.cmpF_lex fs gs)
 generalize hcc : (fun i => orr (ocmp (fs.getD i (0, v0)).1 (gs.getD i (0, v0)).1) (cmp (fs.getD i (0, v0)).2 (gs.getD i (0, v0)).2)) = cc at HL
 have HCC : Hid (∀ i (h1 : i < fs.length) (h2 : i < gs.length), cc i = orr (ocmp fs[i].1 gs[i].1) (cmp fs[i].2 gs[i].2)) := fun i h1 h2 => by
  rw [← hcc]; simp [List.getD_eq_getElem?_getD, h1, h2]
 clear hcc hlx hly hx hxr hy hyr hs
 generalize hxc : ([.int .i64 3, .int .u64 xn, .string xt, .slice xa1 xfe.length xc1, .string xr, .slice xa2 xle.length xc2, .slice xa3 xpe.length xc3] : List Value) = xc at *
 generalize hyc : ([.int .i64 3, .int .u64 yn, .string yt, .slice ya1 yfe.length yc1, .string yr, .slice ya2 yle.length yc2, .slice ya3 ype.length yc3] : List Value) = yc at *
 clear hxc hyc
 generalize hxl : xfe.length = nx at *
 generalize hyl : yfe.length = ny at *
 have Hxl := Yq hxl; have Hyl := Yq hyl
 clear hxl hyl
 go_enter Tryz.func26, Tryz.ntmps26
 go_wp2_with (first
  | (refine wpList_box_lay rfl 40 _ rfl xc rfl ?_; (intro w2 gx hgx hBx hb2))
  | (refine wpList_box_lay rfl 40 _ rfl yc rfl ?_; (intro w3 gy hgy hBy hb3; replace hBx := hBx.below hb3 hBx.lt; have hb0 := hb2.trans (hb3.mono hb2.size); clear hb2 hb3 hgx hgy; obtain ⟨x0, x1, x2, x3, x4, x5, x6⟩ := HCX.out _ _ hBx; obtain ⟨y0, y1, y2, y3, y4, y5, y6⟩ := HCY.out _ _ hBy)))
 have HB := Yq (And.intro hBx hBy)
 have Hb0 := Yq hb0
 clear hb0 hBx hBy x0 x1 x2 x3 x4 x5 x6 y0 y1 y2 y3 y4 y5 y6
 go_loopw [5] (fun i wr => ∃ (k : Nat), k ≤ nx ∧ k ≤ ny ∧ i = .int .i64 k ∧ Hid (∀ j, j < k → cc j = 0) ∧ Hid (Below w3.heap.size w3 wr)) (fun i _ => nx - (intOf i).toNat)
 case atStart => exact ⟨0, Nat.zero_le _, Nat.zero_le _, rfl, fun j h => by omega, Below.refl _ _⟩
 case round =>
  obtain ⟨k, hkx, hky, rfl, HI, HW⟩ := hrel
  have Hbw : Hid (Below w.heap.size w wr) := Hb0.out.trans (HW.out.mono Hb0.out.size)
  have hBx := HB.out.1.below HW.out HB.out.1.lt
  have hBy := HB.out.2.below HW.out HB.out.2.lt
  obtain ⟨x0, x1, x2, x3, x4, x5, x6⟩ := HCX.out _ _ hBx
  obtain ⟨y0, y1, y2, y3, y4, y5, y6⟩ := HCY.out _ _ hBy
  clear x0 x1 x2 y0 y1 y2
  by_cases hlt : k < nx ∧ k < ny
  ·obtain ⟨h1, h2⟩ := hlt
   have hkf : k < fs.length := by rw [← Hlx.out]; exact h1
   have hkg : k < gs.length := by rw [← Hly.out]; exact h2
   have hke : k < xfe.length := by rw [Hxl.out]; exact h1
   have hkh : k < yfe.length := by rw [Hyl.out]; exact h2
   have hX := HX.out.1.mono (below_le Hbw.out)
   have hY := HY.out.1.mono (below_le Hbw.out)
   obtain ⟨bx, ox, hbx0, hidx, hcx⟩ := FlatC.at (n := nx) (cap := xc1) (a := xa1) HX.out.1 (by decide) (i := k) hke Tryz.underlying36 sizeRF
   obtain ⟨by_, oy, hby0, hidy, hcy⟩ := FlatC.at (n := ny) (cap := yc1) (a := ya1) HY.out.1 (by decide) (i := k) hkh Tryz.underlying36 sizeRF
   have rx : wr.rangeAt bx ox xfe[k] := range_below hcx Hbw.out hbx0
   have ry : wr.rangeAt by_ oy yfe[k] := range_below hcy Hbw.out hby0
   have hbxl : Hid (bx < wr.heap.size ∧ by_ < wr.heap.size) := ⟨Nat.lt_of_lt_of_le hbx0 Hbw.out.size, Nat.lt_of_lt_of_le hby0 Hbw.out.size⟩
   have HCk := Yq (HCC.out k hkf hkg)
   have HLx := Yq (fun (h : cc k ≠ 0) => Val.lexN_hit cc fs.length gs.length k hkf hkg HI.out h)
   obtain ⟨vx, ex, vvx⟩ := HX.out.2.at hkf hke
   obtain ⟨vy, ey, vvy⟩ := HY.out.2.at hkg hkh
   rw [ex] at rx; rw [ey] at ry
   have qx : wr.cell? ⟨bx, ox, none⟩ = some (.int .i64 fs[k].1) := rx 0 _ rfl
   have qy : wr.cell? ⟨by_, oy, none⟩ = some (.int .i64 gs[k].1) := ry 0 _ rfl
   have px : wr.rangeAt bx (ox + 1) vx := range_part (p := [.int .i64 fs[k].1]) (r := []) rx (by simp) rfl
   have py : wr.rangeAt by_ (oy + 1) vy := range_part (p := [.int .i64 gs[k].1]) (r := []) ry (by simp) rfl
   have HC := Yq (fun (wx : World) (hb : Below w.heap.size w wx) => ih fs[k].2 gs[k].2 vx vy wx (HS.out _ (List.getElem_mem hkf)) (vvx.mono (below_le hb)) (vvy.mono (below_le hb)))
   have HLvx := Yq vvx.len; have HLvy := Yq vvy.len
   clear rx ry ex ey vvx vvy hcx hcy hbx0 hby0 hX hY hke hkh
   generalize fs[k].1 = p at *; generalize gs[k].1 = q at *
   generalize cmp fs[k].2 gs[k].2 = c at *
   clear hkf hkg
   by_cases h3 : p < q
   ·have hd : decide (p < q) = true := decide_eq_true h3
    go_wp2_with fail
    refine wp_region_still_tail 12 (by kernel_rfl) (by kernel_rfl) ?_
    change wpStill _ _ (World.drew _) _ _ _
    simp only [List.take_succ_cons, List.take_zero, List.drop_succ_cons, List.drop_zero]
    iterate 12 still_step
    refine wpStill_nil ?_
    change wpList _ _ _ _ _ (World.drew _)
    go_wp2_with fail
    go_ret
    refine ⟨ret_int ?_, Hbw.out.drew⟩
    have hc : cc k = -1 := by rw [HCk.out]; unfold ocmp; rw [if_pos (by omega)]; rfl
    rw [HL.out, HLx.out (by rw [hc]; decide), hc]; rfl
   ·have hd : decide (p < q) = false := decide_eq_false h3
    by_cases h4 : q < p
    ·have hd2 : decide (q < p) = true := decide_eq_true h4
     go_wp2_with fail
     refine wp_region_still_tail 12 (by kernel_rfl) (by kernel_rfl) ?_
     change wpStill _ _ (World.drew _) _ _ _
     simp only [List.take_succ_cons, List.take_zero, List.drop_succ_cons, List.drop_zero]
     iterate 12 still_step
     refine wpStill_nil ?_
     change wpList _ _ _ _ _ (World.drew _)
     go_wp2_with fail
     refine wp_region_still_tail 12 (by kernel_rfl) (by kernel_rfl) ?_
     change wpStill _ _ (World.drew _) _ _ _
     simp only [List.take_succ_cons, List.take_zero, List.drop_succ_cons, List.drop_zero]
     iterate 12 still_step
     refine wpStill_nil ?_
     change wpList _ _ _ _ _ (World.drew _)
     go_wp2_with fail
     go_ret
     refine ⟨ret_int ?_, Hbw.out.drew.drew⟩
     have hc : cc k = 1 := by rw [HCk.out]; unfold ocmp; rw [if_neg (by omega), if_pos (by omega)]; rfl
     rw [HL.out, HLx.out (by rw [hc]; decide), hc]; rfl
    ·have hd2 : decide (q < p) = false := decide_eq_false h4
     have hc : Hid (cc k = c) := by show _ = _; rw [HCk.out]; unfold ocmp; rw [if_neg (by omega), if_neg (by omega)]; rfl
     clear h3 h4
     have hb4 := Hbw.out.drew.drew.drew
     go_wp2_with fail
     refine wp_region_still_tail 12 (by kernel_rfl) (by kernel_rfl) ?_
     change wpStill _ _ (World.drew _) _ _ _
     simp only [List.take_succ_cons, List.take_zero, List.drop_succ_cons, List.drop_zero]
     iterate 12 still_step
     refine wpStill_nil ?_
     change wpList _ _ _ _ _ (World.drew _)
     go_wp2_with fail
     refine wp_region_still_tail 12 (by kernel_rfl) (by kernel_rfl) ?_
     change wpStill _ _ (World.drew _) _ _ _
     simp only [List.take_succ_cons, List.take_zero, List.drop_succ_cons, List.drop_zero]
     iterate 12 still_step
     refine wpStill_nil ?_
     change wpList _ _ _ _ _ (World.drew _)
     go_wp2_with fail
     refine wp_region_still_tail 12 (by kernel_rfl) (by kernel_rfl) ?_
     change wpStill _ _ (World.drew _) _ _ _
     simp only [List.take_succ_cons, List.take_zero, List.drop_succ_cons, List.drop_zero]
     iterate 5 still_step
     refine wpStill_load_seg0 rfl 40 _ rfl bx (ox + 1) (by go_simp) vx _ px Tryz.underlying40 rfl (iC infoRV HLvx) ?_
     iterate 5 still_step
     refine wpStill_load_seg0 rfl 40 _ rfl by_ (oy + 1) (by go_simp) vy _ py Tryz.underlying40 rfl (iC infoRV HLvy) ?_
     refine wpStill_nil ?_
     change wpList _ _ _ _ _ (World.drew _)
     go_wp2_with fail
     refine (HC.out _ hb4).mono ?_
     rintro e w6 ⟨rfl, hb6⟩
     replace hb4 := hb4.trans (hb6.mono hb4.size)
     have Hb4 := Yq hb4
     by_cases h0 : c = 0
     ·subst h0
      have hW6 : Hid (Below w3.heap.size w3 w6) := HW.out.trans (((Below.refl wr.heap.size wr).drew.drew.drew.trans hb6).mono HW.out.size)
      clear hb4 hb6
      go_wp2_with fail
      go_roundw
      case rel => exact ⟨k + 1, by omega, by omega, by go_num, fun j hj => by
       by_cases e : j = k
       ·rw [e, hc.out]
       ·exact HI.out j (by omega), hW6.out⟩
      case measure => simp [intOf]; omega
     ·have hd9 : (c != 0) = true := by simpa using h0
      have H0 := Yq h0; clear h0 hb4 hb6
      go_wp2_with fail
      go_ret
      exact ⟨ret_int (by rw [HL.out, HLx.out (by rw [hc.out]; exact H0.out), hc.out]; exact (orr_ne H0.out).symm), Hb4.out⟩
  ·have he : Hid (nx ≤ k ∨ ny ≤ k) := by show _ ∨ _; omega
   have hcmp : Hid (cmpF fs gs = ocmp (nx : Int) (ny : Int)) := by
    show _ = _
    rw [HL.out, ← Hlx.out, ← Hly.out]; exact lex_ocmp ⟨hkx, hky⟩ he.out HI.out
   have hwx := Hbw.out
   have hn1 : (nx : Int) ≤ 9223372036854775807 := by omega
   have hn2 : (ny : Int) ≤ 9223372036854775807 := by omega
   have Hcmp := Yq hcmp.out; clear hcmp
   generalize hoc : ocmp (nx : Int) (ny : Int) = oc at Hcmp
   have Hoc := Yq hoc; clear hoc
   by_cases h1 : k < nx
   ·have hd : decide (k < nx) = true := decide_eq_true h1
    by_cases ho : oc = 0
    ·subst ho
     go_wp2_with (first
      | (go_at_call 54; (with_reducible refine (rnum_any _ _ _).mono ?_); rintro e w7 ⟨rfl, rfl⟩; rw [Hoc.out])
      | (go_at_call 55; (with_reducible refine (rtext_any _ _ _).mono ?_); rintro e w7 ⟨rfl, rfl⟩))
     go_ret
     exact ⟨ret_int (by rw [Hcmp.out, lex_orr rfl]), hwx⟩
    ·have hd9 : (oc != 0) = true := by simpa using ho
     have H0 := Yq ho; clear ho
     go_wp2_with (first
      | (go_at_call 54; (with_reducible refine (rnum_any _ _ _).mono ?_); rintro e w7 ⟨rfl, rfl⟩; rw [Hoc.out]))
     go_ret
     exact ⟨ret_int (by rw [Hcmp.out, orr_ne H0.out]), hwx⟩
   ·have hd : decide (k < nx) = false := decide_eq_false h1
    by_cases ho : oc = 0
    ·subst ho
     go_wp2_with (first
      | (go_at_call 54; (with_reducible refine (rnum_any _ _ _).mono ?_); rintro e w7 ⟨rfl, rfl⟩; rw [Hoc.out])
      | (go_at_call 55; (with_reducible refine (rtext_any _ _ _).mono ?_); rintro e w7 ⟨rfl, rfl⟩))
     go_ret
     exact ⟨ret_int (by rw [Hcmp.out, lex_orr rfl]), hwx⟩
    ·have hd9 : (oc != 0) = true := by simpa using ho
     have H0 := Yq ho; clear ho
     go_wp2_with (first
      | (go_at_call 54; (with_reducible refine (rnum_any _ _ _).mono ?_); rintro e w7 ⟨rfl, rfl⟩; rw [Hoc.out]))
     go_ret
     exact ⟨ret_int (by rw [Hcmp.out, orr_ne H0.out]), hwx⟩
theorem rcmp_list (N : Nat) (ih : RCmpAt N) (fs gs : List V) (hs : ∀ e ∈ fs, SizeOf.sizeOf e < N) (xn yn : Int) (xt yt xr yr : ByteArray) (xa1 xa2 xa3 ya1 ya2 ya3 : Option Addr) (xc1 xc2 xc3 yc1 yc2 yc3 : Nat) (xfe xle xpe yfe yle ype : List (List Value)) (w : World)
  (hx : FlatC 7 (frag w) (.slice xa2 xle.length xc2) xle) (hxr : LsR (frag w) fs xle) (hy : FlatC 7 (frag w) (.slice ya2 yle.length yc2) yle) (hyr : LsR (frag w) gs yle) :
  Calls Tryz.prog 26 #[.agg ([.int .i64 4, .int .u64 xn, .string xt, .slice xa1 xfe.length xc1, .string xr, .slice xa2 xle.length xc2, .slice xa3 xpe.length xc3] : List Value).toArray, .agg ([.int .i64 4, .int .u64 yn, .string yt, .slice ya1 yfe.length yc1, .string yr, .slice ya2 yle.length yc2, .slice ya3 ype.length yc3] : List Value).toArray] w fun e w' => e = .returned (.int .i64 (cmpL fs gs)) ∧ Below w.heap.size w w' := by
 have HCX := Yq (fun (w2 : World) (g : Nat) (hB : Blk w2 g [.int .i64 4, .int .u64 xn, .string xt, .slice xa1 xfe.length xc1, .string xr, .slice xa2 xle.length xc2, .slice xa3 xpe.length xc3]) => (show w2.cell? ⟨g, 0, none⟩ = some (.int .i64 4) ∧ w2.cell? ⟨g, 1, none⟩ = some (.int .u64 xn) ∧ w2.cell? ⟨g, 2, none⟩ = some (.string xt) ∧ w2.cell? ⟨g, 3, none⟩ = some (.slice xa1 xfe.length xc1) ∧ w2.cell? ⟨g, 4, none⟩ = some (.string xr) ∧ w2.cell? ⟨g, 5, none⟩ = some (.slice xa2 xle.length xc2) ∧ w2.cell? ⟨g, 6, none⟩ = some (.slice xa3 xpe.length xc3) from ⟨hB.cell rfl, hB.cell rfl, hB.cell rfl, hB.cell rfl, hB.cell rfl, hB.cell rfl, hB.cell rfl⟩))
 have HCY := Yq (fun (w2 : World) (g : Nat) (hB : Blk w2 g [.int .i64 4, .int .u64 yn, .string yt, .slice ya1 yfe.length yc1, .string yr, .slice ya2 yle.length yc2, .slice ya3 ype.length yc3]) => (show w2.cell? ⟨g, 0, none⟩ = some (.int .i64 4) ∧ w2.cell? ⟨g, 1, none⟩ = some (.int .u64 yn) ∧ w2.cell? ⟨g, 2, none⟩ = some (.string yt) ∧ w2.cell? ⟨g, 3, none⟩ = some (.slice ya1 yfe.length yc1) ∧ w2.cell? ⟨g, 4, none⟩ = some (.string yr) ∧ w2.cell? ⟨g, 5, none⟩ = some (.slice ya2 yle.length yc2) ∧ w2.cell? ⟨g, 6, none⟩ = some (.slice ya3 ype.length yc3) from ⟨hB.cell rfl, hB.cell rfl, hB.cell rfl, hB.cell rfl, hB.cell rfl, hB.cell rfl, hB.cell rfl⟩))
 have hlx := hxr.len; have hly := hyr.len
 have hmx : xle.length ≤ 9223372036854775807 := by obtain ⟨_, _, e, h1, h2, _⟩ := hx; unfold maxLen at h2; omega
 have hmy : yle.length ≤ 9223372036854775807 := by obtain ⟨_, _, e, h1, h2, _⟩ := hy; unfold maxLen at h2; omega
 have Hlx := Yq hlx; have Hly := Yq hly
 have HX := Yq (And.intro hx hxr); have HY := Yq (And.intro hy hyr)
 have HS := Yq hs
 have HL := Yq (Val.cmpL_lex fs gs)
 generalize hcc : (fun i => cmp (fs.getD i v0) (gs.getD i v0)) = cc at HL
 have HCC : Hid (∀ i (h1 : i < fs.length) (h2 : i < gs.length), cc i = cmp fs[i] gs[i]) := fun i h1 h2 => by
  rw [← hcc]; simp [List.getD_eq_getElem?_getD, h1, h2]
 clear hcc hlx hly hx hxr hy hyr hs
 generalize hxc : ([.int .i64 4, .int .u64 xn, .string xt, .slice xa1 xfe.length xc1, .string xr, .slice xa2 xle.length xc2, .slice xa3 xpe.length xc3] : List Value) = xc at *
 generalize hyc : ([.int .i64 4, .int .u64 yn, .string yt, .slice ya1 yfe.length yc1, .string yr, .slice ya2 yle.length yc2, .slice ya3 ype.length yc3] : List Value) = yc at *
 clear hxc hyc
 generalize hxl : xle.length = nx at *
 generalize hyl : yle.length = ny at *
 have Hxl := Yq hxl; have Hyl := Yq hyl
 clear hxl hyl
 go_enter Tryz.func26, Tryz.ntmps26
 go_wp2_with (first
  | (refine wpList_box_lay rfl 40 _ rfl xc rfl ?_; (intro w2 gx hgx hBx hb2))
  | (refine wpList_box_lay rfl 40 _ rfl yc rfl ?_; (intro w3 gy hgy hBy hb3; replace hBx := hBx.below hb3 hBx.lt; have hb0 := hb2.trans (hb3.mono hb2.size); clear hb2 hb3 hgx hgy; obtain ⟨x0, x1, x2, x3, x4, x5, x6⟩ := HCX.out _ _ hBx; obtain ⟨y0, y1, y2, y3, y4, y5, y6⟩ := HCY.out _ _ hBy)))
 have HB := Yq (And.intro hBx hBy)
 have Hb0 := Yq hb0
 clear hb0 hBx hBy x0 x1 x2 x3 x4 x5 x6 y0 y1 y2 y3 y4 y5 y6
 go_loopw [8] (fun i wr => ∃ (k : Nat), k ≤ nx ∧ k ≤ ny ∧ i = .int .i64 k ∧ Hid (∀ j, j < k → cc j = 0) ∧ Hid (Below w3.heap.size w3 wr)) (fun i _ => nx - (intOf i).toNat)
 case atStart => exact ⟨0, Nat.zero_le _, Nat.zero_le _, rfl, fun j h => by omega, Below.refl _ _⟩
 case round =>
  obtain ⟨k, hkx, hky, rfl, HI, HW⟩ := hrel
  have Hbw : Hid (Below w.heap.size w wr) := Hb0.out.trans (HW.out.mono Hb0.out.size)
  have hBx := HB.out.1.below HW.out HB.out.1.lt
  have hBy := HB.out.2.below HW.out HB.out.2.lt
  obtain ⟨x0, x1, x2, x3, x4, x5, x6⟩ := HCX.out _ _ hBx
  obtain ⟨y0, y1, y2, y3, y4, y5, y6⟩ := HCY.out _ _ hBy
  clear x0 x1 x2 y0 y1 y2
  by_cases hlt : k < nx ∧ k < ny
  ·obtain ⟨h1, h2⟩ := hlt
   have hkf : k < fs.length := by rw [← Hlx.out]; exact h1
   have hkg : k < gs.length := by rw [← Hly.out]; exact h2
   have hke : k < xle.length := by rw [Hxl.out]; exact h1
   have hkh : k < yle.length := by rw [Hyl.out]; exact h2
   have hX := HX.out.1.mono (below_le Hbw.out)
   have hY := HY.out.1.mono (below_le Hbw.out)
   obtain ⟨bx, ox, hbx0, hidx, hcx⟩ := FlatC.at (n := nx) (cap := xc2) (a := xa2) HX.out.1 (by decide) (i := k) hke Tryz.underlying37 sizeRL
   obtain ⟨by_, oy, hby0, hidy, hcy⟩ := FlatC.at (n := ny) (cap := yc2) (a := ya2) HY.out.1 (by decide) (i := k) hkh Tryz.underlying37 sizeRL
   have rx : wr.rangeAt bx ox xle[k] := range_below hcx Hbw.out hbx0
   have ry : wr.rangeAt by_ oy yle[k] := range_below hcy Hbw.out hby0
   have hbxl : Hid (bx < wr.heap.size ∧ by_ < wr.heap.size) := ⟨Nat.lt_of_lt_of_le hbx0 Hbw.out.size, Nat.lt_of_lt_of_le hby0 Hbw.out.size⟩
   have HCk := Yq (HCC.out k hkf hkg)
   have HLx := Yq (fun (h : cc k ≠ 0) => Val.lexN_hit cc fs.length gs.length k hkf hkg HI.out h)
   have vvx := HX.out.2.at hkf hke; have vvy := HY.out.2.at hkg hkh
   have HC := Yq (fun (wx : World) (hb : Below w.heap.size w wx) => ih fs[k] gs[k] _ _ wx (HS.out _ (List.getElem_mem hkf)) (vvx.mono (below_le hb)) (vvy.mono (below_le hb)))
   have HLvx := Yq vvx.len; have HLvy := Yq vvy.len
   clear vvx vvy hcx hcy hbx0 hby0 hX hY
   generalize xle[k] = vx at *; generalize yle[k] = vy at *
   generalize cmp fs[k] gs[k] = c at *
   clear hkf hkg hke hkh
   have hb4 := Hbw.out.drew
   go_wp2_with fail
   refine wp_region_still_tail 10 (by kernel_rfl) (by kernel_rfl) ?_
   change wpStill _ _ (World.drew _) _ _ _
   simp only [List.take_succ_cons, List.take_zero, List.drop_succ_cons, List.drop_zero]
   iterate 4 still_step
   refine wpStill_load_seg0 rfl 40 _ rfl bx ox (by go_simp) vx _ rx Tryz.underlying40 rfl (iC infoRV HLvx) ?_
   iterate 4 still_step
   refine wpStill_load_seg0 rfl 40 _ rfl by_ oy (by go_simp) vy _ ry Tryz.underlying40 rfl (iC infoRV HLvy) ?_
   refine wpStill_nil ?_
   change wpList _ _ _ _ _ (World.drew _)
   go_wp2_with fail
   refine (HC.out _ hb4).mono ?_
   rintro e w6 ⟨rfl, hb6⟩
   replace hb4 := hb4.trans (hb6.mono hb4.size)
   have Hb4 := Yq hb4
   by_cases h0 : c = 0
   ·subst h0
    have hW6 : Hid (Below w3.heap.size w3 w6) := HW.out.trans (((Below.refl wr.heap.size wr).drew.trans hb6).mono HW.out.size)
    clear hb4 hb6
    go_wp2_with fail
    go_roundw
    case rel => exact ⟨k + 1, by omega, by omega, by go_num, fun j hj => by
     by_cases e : j = k
     ·rw [e, HCk.out]
     ·exact HI.out j (by omega), hW6.out⟩
    case measure => simp [intOf]; omega
   ·have hd9 : (c != 0) = true := by simpa using h0
    have H0 := Yq h0; clear h0 hb4 hb6
    go_wp2_with fail
    go_ret
    exact ⟨ret_int (by rw [HL.out, HLx.out (by rw [HCk.out]; exact H0.out), HCk.out]), Hb4.out⟩
  ·have he : Hid (nx ≤ k ∨ ny ≤ k) := by show _ ∨ _; omega
   have hcmp : Hid (cmpL fs gs = ocmp (nx : Int) (ny : Int)) := by
    show _ = _
    rw [HL.out, ← Hlx.out, ← Hly.out]; exact lex_ocmp ⟨hkx, hky⟩ he.out HI.out
   have hwx := Hbw.out
   have hn1 : (nx : Int) ≤ 9223372036854775807 := by omega
   have hn2 : (ny : Int) ≤ 9223372036854775807 := by omega
   have Hcmp := Yq hcmp.out; clear hcmp
   by_cases h1 : k < nx
   ·have hd : decide (k < nx) = true := decide_eq_true h1
    go_wp2_with (first
     | (go_at_call 54; (with_reducible refine (rnum_any _ _ _).mono ?_); rintro e w7 ⟨rfl, rfl⟩))
    go_ret
    exact ⟨ret_int (by rw [Hcmp.out]), hwx⟩
   ·have hd : decide (k < nx) = false := decide_eq_false h1
    go_wp2_with (first
     | (go_at_call 54; (with_reducible refine (rnum_any _ _ _).mono ?_); rintro e w7 ⟨rfl, rfl⟩))
    go_ret
    exact ⟨ret_int (by rw [Hcmp.out]), hwx⟩
theorem rcmp_map (N : Nat) (ih : RCmpAt N) (fs gs : List (V × V)) (hs : ∀ e ∈ fs, SizeOf.sizeOf e.1 < N ∧ SizeOf.sizeOf e.2 < N) (xn yn : Int) (xt yt xr yr : ByteArray) (xa1 xa2 xa3 ya1 ya2 ya3 : Option Addr) (xc1 xc2 xc3 yc1 yc2 yc3 : Nat) (xfe xle xpe yfe yle ype : List (List Value)) (w : World)
  (hx : FlatC 14 (frag w) (.slice xa3 xpe.length xc3) xpe) (hxr : PsR (frag w) fs xpe) (hy : FlatC 14 (frag w) (.slice ya3 ype.length yc3) ype) (hyr : PsR (frag w) gs ype) :
  Calls Tryz.prog 26 #[.agg ([.int .i64 5, .int .u64 xn, .string xt, .slice xa1 xfe.length xc1, .string xr, .slice xa2 xle.length xc2, .slice xa3 xpe.length xc3] : List Value).toArray, .agg ([.int .i64 5, .int .u64 yn, .string yt, .slice ya1 yfe.length yc1, .string yr, .slice ya2 yle.length yc2, .slice ya3 ype.length yc3] : List Value).toArray] w fun e w' => e = .returned (.int .i64 (cmpP fs gs)) ∧ Below w.heap.size w w' := by
 have HCX := Yq (fun (w2 : World) (g : Nat) (hB : Blk w2 g [.int .i64 5, .int .u64 xn, .string xt, .slice xa1 xfe.length xc1, .string xr, .slice xa2 xle.length xc2, .slice xa3 xpe.length xc3]) => (show w2.cell? ⟨g, 0, none⟩ = some (.int .i64 5) ∧ w2.cell? ⟨g, 1, none⟩ = some (.int .u64 xn) ∧ w2.cell? ⟨g, 2, none⟩ = some (.string xt) ∧ w2.cell? ⟨g, 3, none⟩ = some (.slice xa1 xfe.length xc1) ∧ w2.cell? ⟨g, 4, none⟩ = some (.string xr) ∧ w2.cell? ⟨g, 5, none⟩ = some (.slice xa2 xle.length xc2) ∧ w2.cell? ⟨g, 6, none⟩ = some (.slice xa3 xpe.length xc3) from ⟨hB.cell rfl, hB.cell rfl, hB.cell rfl, hB.cell rfl, hB.cell rfl, hB.cell rfl, hB.cell rfl⟩))
 have HCY := Yq (fun (w2 : World) (g : Nat) (hB : Blk w2 g [.int .i64 5, .int .u64 yn, .string yt, .slice ya1 yfe.length yc1, .string yr, .slice ya2 yle.length yc2, .slice ya3 ype.length yc3]) => (show w2.cell? ⟨g, 0, none⟩ = some (.int .i64 5) ∧ w2.cell? ⟨g, 1, none⟩ = some (.int .u64 yn) ∧ w2.cell? ⟨g, 2, none⟩ = some (.string yt) ∧ w2.cell? ⟨g, 3, none⟩ = some (.slice ya1 yfe.length yc1) ∧ w2.cell? ⟨g, 4, none⟩ = some (.string yr) ∧ w2.cell? ⟨g, 5, none⟩ = some (.slice ya2 yle.length yc2) ∧ w2.cell? ⟨g, 6, none⟩ = some (.slice ya3 ype.length yc3) from ⟨hB.cell rfl, hB.cell rfl, hB.cell rfl, hB.cell rfl, hB.cell rfl, hB.cell rfl, hB.cell rfl⟩))
 have hlx := hxr.len; have hly := hyr.len
 have hmx : xpe.length ≤ 9223372036854775807 := by obtain ⟨_, _, e, h1, h2, _⟩ := hx; unfold maxLen at h2; omega
 have hmy : ype.length ≤ 9223372036854775807 := by obtain ⟨_, _, e, h1, h2, _⟩ := hy; unfold maxLen at h2; omega
 have Hlx := Yq hlx; have Hly := Yq hly
 have HX := Yq (And.intro hx hxr); have HY := Yq (And.intro hy hyr)
 have HS := Yq hs
 have HL := Yq (Val.cmpP_lex fs gs)
 generalize hcc : (fun i => orr (cmp (fs.getD i (v0, v0)).1 (gs.getD i (v0, v0)).1) (cmp (fs.getD i (v0, v0)).2 (gs.getD i (v0, v0)).2)) = cc at HL
 have HCC : Hid (∀ i (h1 : i < fs.length) (h2 : i < gs.length), cc i = orr (cmp fs[i].1 gs[i].1) (cmp fs[i].2 gs[i].2)) := fun i h1 h2 => by
  rw [← hcc]; simp [List.getD_eq_getElem?_getD, h1, h2]
 clear hcc hlx hly hx hxr hy hyr hs
 generalize hxc : ([.int .i64 5, .int .u64 xn, .string xt, .slice xa1 xfe.length xc1, .string xr, .slice xa2 xle.length xc2, .slice xa3 xpe.length xc3] : List Value) = xc at *
 generalize hyc : ([.int .i64 5, .int .u64 yn, .string yt, .slice ya1 yfe.length yc1, .string yr, .slice ya2 yle.length yc2, .slice ya3 ype.length yc3] : List Value) = yc at *
 clear hxc hyc
 generalize hxl : xpe.length = nx at *
 generalize hyl : ype.length = ny at *
 have Hxl := Yq hxl; have Hyl := Yq hyl
 clear hxl hyl
 go_enter Tryz.func26, Tryz.ntmps26
 go_wp2_with (first
  | (refine wpList_box_lay rfl 40 _ rfl xc rfl ?_; (intro w2 gx hgx hBx hb2))
  | (refine wpList_box_lay rfl 40 _ rfl yc rfl ?_; (intro w3 gy hgy hBy hb3; replace hBx := hBx.below hb3 hBx.lt; have hb0 := hb2.trans (hb3.mono hb2.size); clear hb2 hb3 hgx hgy; obtain ⟨x0, x1, x2, x3, x4, x5, x6⟩ := HCX.out _ _ hBx; obtain ⟨y0, y1, y2, y3, y4, y5, y6⟩ := HCY.out _ _ hBy)))
 have HB := Yq (And.intro hBx hBy)
 have Hb0 := Yq hb0
 clear hb0 hBx hBy x0 x1 x2 x3 x4 x5 x6 y0 y1 y2 y3 y4 y5 y6
 go_loopw [10] (fun i wr => ∃ (k : Nat), k ≤ nx ∧ k ≤ ny ∧ i = .int .i64 k ∧ Hid (∀ j, j < k → cc j = 0) ∧ Hid (Below w3.heap.size w3 wr)) (fun i _ => nx - (intOf i).toNat)
 case atStart => exact ⟨0, Nat.zero_le _, Nat.zero_le _, rfl, fun j h => by omega, Below.refl _ _⟩
 case round =>
  obtain ⟨k, hkx, hky, rfl, HI, HW⟩ := hrel
  have Hbw : Hid (Below w.heap.size w wr) := Hb0.out.trans (HW.out.mono Hb0.out.size)
  have hBx := HB.out.1.below HW.out HB.out.1.lt
  have hBy := HB.out.2.below HW.out HB.out.2.lt
  obtain ⟨x0, x1, x2, x3, x4, x5, x6⟩ := HCX.out _ _ hBx
  obtain ⟨y0, y1, y2, y3, y4, y5, y6⟩ := HCY.out _ _ hBy
  clear x0 x1 x2 y0 y1 y2
  by_cases hlt : k < nx ∧ k < ny
  ·obtain ⟨h1, h2⟩ := hlt
   have hkf : k < fs.length := by rw [← Hlx.out]; exact h1
   have hkg : k < gs.length := by rw [← Hly.out]; exact h2
   have hke : k < xpe.length := by rw [Hxl.out]; exact h1
   have hkh : k < ype.length := by rw [Hyl.out]; exact h2
   have hX := HX.out.1.mono (below_le Hbw.out)
   have hY := HY.out.1.mono (below_le Hbw.out)
   obtain ⟨bx, ox, hbx0, hidx, hcx⟩ := FlatC.at (n := nx) (cap := xc3) (a := xa3) HX.out.1 (by decide) (i := k) hke Tryz.underlying38 sizeRP
   obtain ⟨by_, oy, hby0, hidy, hcy⟩ := FlatC.at (n := ny) (cap := yc3) (a := ya3) HY.out.1 (by decide) (i := k) hkh Tryz.underlying38 sizeRP
   have rx : wr.rangeAt bx ox xpe[k] := range_below hcx Hbw.out hbx0
   have ry : wr.rangeAt by_ oy ype[k] := range_below hcy Hbw.out hby0
   have hbxl : Hid (bx < wr.heap.size ∧ by_ < wr.heap.size) := ⟨Nat.lt_of_lt_of_le hbx0 Hbw.out.size, Nat.lt_of_lt_of_le hby0 Hbw.out.size⟩
   have HCk := Yq (HCC.out k hkf hkg)
   have HLx := Yq (fun (h : cc k ≠ 0) => Val.lexN_hit cc fs.length gs.length k hkf hkg HI.out h)
   obtain ⟨kx, vx, ex, kkx, vvx⟩ := HX.out.2.at hkf hke
   obtain ⟨ky, vy, ey, kky, vvy⟩ := HY.out.2.at hkg hkh
   rw [ex] at rx; rw [ey] at ry
   have px : wr.rangeAt bx ox kx := by have h := range_part (p := []) (q := kx) (k := 0) (r := vx) rx (by simp) rfl; simpa using h
   have py : wr.rangeAt by_ oy ky := by have h := range_part (p := []) (q := ky) (k := 0) (r := vy) ry (by simp) rfl; simpa using h
   have ux : wr.rangeAt bx (ox + 7) vx := range_part (p := kx) (r := []) rx (by simp) kkx.len
   have uy : wr.rangeAt by_ (oy + 7) vy := range_part (p := ky) (r := []) ry (by simp) kky.len
   have HCK := Yq (fun (wx : World) (hb : Below w.heap.size w wx) => ih fs[k].1 gs[k].1 kx ky wx (HS.out _ (List.getElem_mem hkf)).1 (kkx.mono (below_le hb)) (kky.mono (below_le hb)))
   have HC := Yq (fun (wx : World) (hb : Below w.heap.size w wx) => ih fs[k].2 gs[k].2 vx vy wx (HS.out _ (List.getElem_mem hkf)).2 (vvx.mono (below_le hb)) (vvy.mono (below_le hb)))
   have HLvx := Yq vvx.len; have HLvy := Yq vvy.len; have HLkx := Yq kkx.len; have HLky := Yq kky.len
   clear rx ry ex ey kkx kky vvx vvy hcx hcy hbx0 hby0 hX hY hke hkh
   generalize cmp fs[k].1 gs[k].1 = c0 at *
   generalize cmp fs[k].2 gs[k].2 = c at *
   clear hkf hkg
   have hb4 := Hbw.out.drew
   go_wp2_with fail
   refine wp_region_still_tail 12 (by kernel_rfl) (by kernel_rfl) ?_
   change wpStill _ _ (World.drew _) _ _ _
   simp only [List.take_succ_cons, List.take_zero, List.drop_succ_cons, List.drop_zero]
   iterate 5 still_step
   refine wpStill_load_seg0 rfl 40 _ rfl bx ox (by go_simp) kx _ px Tryz.underlying40 rfl (iC infoRV HLkx) ?_
   iterate 5 still_step
   refine wpStill_load_seg0 rfl 40 _ rfl by_ oy (by go_simp) ky _ py Tryz.underlying40 rfl (iC infoRV HLky) ?_
   refine wpStill_nil ?_
   change wpList _ _ _ _ _ (World.drew _)
   go_wp2_with fail
   refine (HCK.out _ hb4).mono ?_
   rintro e w5 ⟨rfl, hb5⟩
   replace hb4 := hb4.trans (hb5.mono hb4.size)
   clear x6 y6
   replace hBx : Blk w5 gx xc := Blk.below (show Blk wr.drew gx xc from hBx) hb5 (Blk.lt hBx); replace hBy : Blk w5 gy yc := Blk.below (show Blk wr.drew gy yc from hBy) hb5 (Blk.lt hBy)
   have hx6 := HCX.out _ _ hBx; have hy6 := HCY.out _ _ hBy
   have x6 := hx6.2.2.2.2.2.2; have y6 := hy6.2.2.2.2.2.2
   clear hx6 hy6
   replace ux := range_below (w := wr.drew) ux hb5 hbxl.out.1; replace uy := range_below (w := wr.drew) uy hb5 hbxl.out.2
   clear px py
   by_cases h0 : c0 = 0
   ·subst h0
    rw [lex_orr rfl] at HCk
    have hb45 := hb4
    have HB5 := Yq hb5; clear hb5
    have hb7 := hb45.drew
    go_wp2_with fail
    refine wp_region_still_tail 12 (by kernel_rfl) (by kernel_rfl) ?_
    change wpStill _ _ (World.drew _) _ _ _
    simp only [List.take_succ_cons, List.take_zero, List.drop_succ_cons, List.drop_zero]
    iterate 5 still_step
    refine wpStill_load_seg0 rfl 40 _ rfl bx (ox + 7) (by go_simp) vx _ ux Tryz.underlying40 rfl (iC infoRV HLvx) ?_
    iterate 5 still_step
    refine wpStill_load_seg0 rfl 40 _ rfl by_ (oy + 7) (by go_simp) vy _ uy Tryz.underlying40 rfl (iC infoRV HLvy) ?_
    refine wpStill_nil ?_
    change wpList _ _ _ _ _ (World.drew _)
    go_wp2_with fail
    refine (HC.out _ hb7).mono ?_
    rintro e w6 ⟨rfl, hb6⟩
    replace hb4 := hb7
    replace hb4 := hb4.trans (hb6.mono hb4.size)
    have Hb4 := Yq hb4
    by_cases h0 : c = 0
    ·subst h0
     have hW6 : Hid (Below w3.heap.size w3 w6) := HW.out.trans ((((Below.refl wr.heap.size wr).drew.trans HB5.out).trans (((Below.refl w5.heap.size w5).drew.trans hb6).mono HB5.out.size)).mono HW.out.size)
     clear hb4 hb6
     go_wp2_with fail
     go_roundw
     case rel => exact ⟨k + 1, by omega, by omega, by go_num, fun j hj => by
      by_cases e : j = k
      ·rw [e, HCk.out]
      ·exact HI.out j (by omega), hW6.out⟩
     case measure => simp [intOf]; omega
    ·have hd9 : (c != 0) = true := by simpa using h0
     have H0 := Yq h0; clear h0 hb4 hb6
     go_wp2_with fail
     go_ret
     exact ⟨ret_int (by rw [HL.out, HLx.out (by rw [HCk.out]; exact H0.out), HCk.out]), Hb4.out⟩
   ·have hd : (c0 != 0) = true := by simpa using h0
    have hc : Hid (cc k = c0) := by show _ = _; rw [HCk.out, orr_ne h0]
    have H0 := Yq h0; clear h0
    go_wp2_with fail
    go_ret
    exact ⟨ret_int (by rw [HL.out, HLx.out (by rw [hc.out]; exact H0.out), hc.out]), hb4⟩
  ·have he : Hid (nx ≤ k ∨ ny ≤ k) := by show _ ∨ _; omega
   have hcmp : Hid (cmpP fs gs = ocmp (nx : Int) (ny : Int)) := by
    show _ = _
    rw [HL.out, ← Hlx.out, ← Hly.out]; exact lex_ocmp ⟨hkx, hky⟩ he.out HI.out
   have hwx := Hbw.out
   have hn1 : (nx : Int) ≤ 9223372036854775807 := by omega
   have hn2 : (ny : Int) ≤ 9223372036854775807 := by omega
   have Hcmp := Yq hcmp.out; clear hcmp
   by_cases h1 : k < nx
   ·have hd : decide (k < nx) = true := decide_eq_true h1
    go_wp2_with (first
     | (go_at_call 54; (with_reducible refine (rnum_any _ _ _).mono ?_); rintro e w7 ⟨rfl, rfl⟩))
    go_ret
    exact ⟨ret_int (by rw [Hcmp.out]), hwx⟩
   ·have hd : decide (k < nx) = false := decide_eq_false h1
    go_wp2_with (first
     | (go_at_call 54; (with_reducible refine (rnum_any _ _ _).mono ?_); rintro e w7 ⟨rfl, rfl⟩))
    go_ret
    exact ⟨ret_int (by rw [Hcmp.out]), hwx⟩
theorem rcmp_succ (N : Nat) (ih : RCmpAt N) : RCmpAt (N + 1) := fun x y xc yc w hsz hx hy => by
 obtain ⟨xk, xn, xt, xf, xr, xl, xp⟩ := x
 obtain ⟨yk, yn, yt, yf, yr, yl, yp⟩ := y
 have sF : ∀ e ∈ xf, SizeOf.sizeOf e.2 < N := fun e h => by have := Val.size_field (x := .mk xk xn xt xf xr xl xp) (m := e.1) (v := e.2) h; omega
 have sL : ∀ e ∈ xl, SizeOf.sizeOf e < N := fun e h => by have := Val.size_list (x := .mk xk xn xt xf xr xl xp) (v := e) h; omega
 have sP : ∀ e ∈ xp, SizeOf.sizeOf e.1 < N ∧ SizeOf.sizeOf e.2 < N := fun e h => by have := Val.size_pair (x := .mk xk xn xt xf xr xl xp) (k := e.1) (v := e.2) h; omega
 rw [VR] at hx
 obtain ⟨xfv, xlv, xpv, xfe, xle, xpe, xe, xh2, ⟨xh3, xh4, xh5⟩, xh6, xh7, xh8⟩ := hx
 obtain ⟨xa1, xc1, xe1, xb1, xb2, xb3⟩ := xh3.len
 obtain ⟨xa2, xc2, xe2, xd1, xd2, xd3⟩ := xh4.len
 obtain ⟨xa3, xc3, xe3, xg1, xg2, xg3⟩ := xh5.len
 subst xe1 xe2 xe3
 rw [VR] at hy
 obtain ⟨yfv, ylv, ypv, yfe, yle, ype, ye, yh2, ⟨yh3, yh4, yh5⟩, yh6, yh7, yh8⟩ := hy
 obtain ⟨ya1, yc1, ye1, yb1, yb2, yb3⟩ := yh3.len
 obtain ⟨ya2, yc2, ye2, yd1, yd2, yd3⟩ := yh4.len
 obtain ⟨ya3, yc3, ye3, yg1, yg2, yg3⟩ := yh5.len
 subst ye1 ye2 ye3
 subst xe ye
 rw [cmp]
 by_cases hk : xk = yk
 ·subst hk
  rw [if_pos rfl]
  by_cases h1 : xk = 1
  ·subst h1; rw [if_pos rfl]; exact rcmp_num 1 1 xn yn xt yt xr yr xa1 xa2 xa3 ya1 ya2 ya3 xc1 xc2 xc3 yc1 yc2 yc3 xfe xle xpe yfe yle ype w
  rw [if_neg h1]
  by_cases h2 : xk = 2
  ·subst h2; rw [if_pos rfl]; exact rcmp_text 2 2 xn yn xt yt xr yr xa1 xa2 xa3 ya1 ya2 ya3 xc1 xc2 xc3 yc1 yc2 yc3 xfe xle xpe yfe yle ype w
  rw [if_neg h2]
  by_cases h3 : xk = 3
  ·subst h3; rw [if_pos rfl]; exact rcmp_msg N ih xf yf sF xn yn xt yt xr yr xa1 xa2 xa3 ya1 ya2 ya3 xc1 xc2 xc3 yc1 yc2 yc3 xfe xle xpe yfe yle ype w xh3 xh6 yh3 yh6
  rw [if_neg h3]
  by_cases h4 : xk = 4
  ·subst h4; rw [if_pos rfl]; exact rcmp_list N ih xl yl sL xn yn xt yt xr yr xa1 xa2 xa3 ya1 ya2 ya3 xc1 xc2 xc3 yc1 yc2 yc3 xfe xle xpe yfe yle ype w xh4 xh7 yh4 yh7
  rw [if_neg h4]
  by_cases h5 : xk = 5
  ·subst h5; rw [if_pos rfl]; exact rcmp_map N ih xp yp sP xn yn xt yt xr yr xa1 xa2 xa3 ya1 ya2 ya3 xc1 xc2 xc3 yc1 yc2 yc3 xfe xle xpe yfe yle ype w xh5 xh8 yh5 yh8
  rw [if_neg h5]
  exact rcmp_none xk xk xn yn xt yt xr yr xa1 xa2 xa3 ya1 ya2 ya3 xc1 xc2 xc3 yc1 yc2 yc3 xfe xle xpe yfe yle ype w h1 h2 h3 h4 h5
 ·rw [if_neg hk]
  rcases Int.lt_or_gt_of_ne hk with h | h
  ·exact rcmp_lt xk yk xn yn xt yt xr yr xa1 xa2 xa3 ya1 ya2 ya3 xc1 xc2 xc3 yc1 yc2 yc3 xfe xle xpe yfe yle ype w h
  ·exact rcmp_gt xk yk xn yn xt yt xr yr xa1 xa2 xa3 ya1 ya2 ya3 xc1 xc2 xc3 yc1 yc2 yc3 xfe xle xpe yfe yle ype w h
theorem rcmp_all : ∀ N, RCmpAt N
 | 0 => fun x y xc yc w h => absurd h (Nat.not_lt_zero _)
 | N + 1 => rcmp_succ N (rcmp_all N)
theorem rcmp_any (x y : V) (xc yc : List Value) (w : World) (hx : VR (frag w) x xc) (hy : VR (frag w) y yc) :
  Calls Tryz.prog 26 #[.agg xc.toArray, .agg yc.toArray] w fun e w' => e = .returned (.int .i64 (cmp x y)) ∧ Below w.heap.size w w' := rcmp_all _ x y xc yc w (Nat.lt_succ_self _) hx hy
theorem rsame_any (x y : V) (xc yc : List Value) (w : World) (hx : VR (frag w) x xc) (hy : VR (frag w) y yc) :
  Calls Tryz.prog 12 #[.agg xc.toArray, .agg yc.toArray] w fun e w' => e = .returned (.bool (decide (cmp x y = 0))) ∧ Below w.heap.size w w' := by
 have HC := Yq (fun (wx : World) (hb : Below w.heap.size w wx) => rcmp_any x y xc yc wx (hx.mono (below_le hb)) (hy.mono (below_le hb)))
 have HLx := Yq hx.len; have HLy := Yq hy.len
 clear hx hy
 generalize cmp x y = c at *
 go_enter Tryz.func12, Tryz.ntmps12
 go_wp2_with (first
  | (refine wpList_box_lay rfl 40 _ rfl xc rfl ?_; (intro w2 gx hgx hBx hb2))
  | (refine wpList_box_lay rfl 40 _ rfl yc rfl ?_; (intro w3 gy hgy hBy hb3; replace hBx := hBx.below hb3 hBx.lt; have hb0 := hb2.trans (hb3.mono hb2.size); clear hb2 hb3 hgx hgy; have rx := hBx.whole; have ry := hBy.whole; clear hBx hBy))
  | (refine wpList_load_seg rfl 40 _ rfl _ _ rfl _ _ rx Tryz.underlying40 rfl (iC infoRV HLx) ?_)
  | (refine wpList_load_seg rfl 40 _ rfl _ _ rfl _ _ ry Tryz.underlying40 rfl (iC infoRV HLy) ?_)
  | (go_at_call 26; (with_reducible refine (HC.out _ hb0).mono ?_); rintro e w4 ⟨rfl, hbn⟩; replace hb0 := hb0.trans (hbn.mono hb0.size); clear rx ry hbn))
 go_ret
 exact ⟨ret_bool (by first | rfl | simp), hb0⟩
end Go.Proofs.YtebekgdjknenlaaGreatDoor
