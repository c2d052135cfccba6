/- value.Compare, walked. -/
import Derived.Test.YtkldcjlkeblggaaDoorVCmpF
namespace Go.Proofs.YtkldcjlkeblggaaDoor
open Go.RowKit
open Val (V cmp cmpF cmpL cmpP ocmp orr scmp)
set_option linter.unusedVariables false

theorem or_made (x y : Int) (W : World) : Calls Tryd.prog 39 #[.slice (some ⟨W.heap.size, 0, none⟩) 2 2] (W.alloc (.cells #[.int .i64 x, .int .i64 y] 3)) fun e w' => e = .returned (.int .i64 (orr x y)) ∧ W.alloc (.cells #[.int .i64 x, .int .i64 y] 3) = w' :=
  or_any x y _ _ (by simp) (by rw [World.cell?_alloc_at _ _ _ _ rfl]; rfl) (by rw [World.cell?_alloc_at _ _ _ _ rfl]; rfl)

def CompareAt (N : Nat) : Prop := ∀ (x y : V) (xc yc : List Value) (w : World), SizeOf.sizeOf x < N → VR (frag w) x xc → VR (frag w) y yc →
  Calls Tryd.prog 17 #[.agg xc.toArray, .agg yc.toArray] w fun e w' => e = .returned (.int .i64 (cmp x y)) ∧ Below w.heap.size w w'

set_option maxRecDepth 100000 in
set_option maxHeartbeats 4000000 in
theorem order_fld (N : Nat) (ih : CompareAt N) (n m : Int) (x y : V) (xc yc : List Value) (w : World) (hs : SizeOf.sizeOf x < N) (hx : VR (frag w) x xc) (hy : VR (frag w) y yc) :
    Calls Tryd.prog 41 #[.agg (.int .i64 n :: xc).toArray, .agg (.int .i64 m :: yc).toArray] w fun e w' => e = .returned (.int .i64 (orr (ocmp n m) (cmp x y))) ∧ Below w.heap.size w w' := by
  have HI := Lib.hid (fun (wx : World) (hb : Below w.heap.size w wx) => ih x y xc yc wx hs (hx.mono (below_le hb)) (hy.mono (below_le hb)))
  obtain ⟨xk, xn, xt, xr, xa1, xn1, xc1, xa2, xn2, xc2, xa3, xn3, xc3, rfl⟩ := hx.shape
  obtain ⟨yk, yn, yt, yr, ya1, yn1, yc1, ya2, yn2, yc2, ya3, yn3, yc3, rfl⟩ := hy.shape
  clear hx hy ih
  go_enter Tryd.func41, Tryd.ntmps41
  go_wp2_with fail
  have HK : Held (w.heap.size + 2) ((w.alloc (.cells #[.int .i64 n, .int .i64 xk, .int .u64 xn, .string xt, .slice xa1 xn1 xc1, .string xr, .slice xa2 xn2 xc2, .slice xa3 xn3 xc3] 59)).alloc (.cells #[.int .i64 m, .int .i64 yk, .int .u64 yn, .string yt, .slice ya1 yn1 yc1, .string yr, .slice ya2 yn2 yc2, .slice ya3 yn3 yc3] 59)) (fun w' => ((w'.cell? ⟨w.heap.size, 0, none⟩ = some (.int .i64 n) ∧ w'.cell? ⟨w.heap.size, 1, none⟩ = some (.int .i64 xk) ∧ w'.cell? ⟨w.heap.size, 2, none⟩ = some (.int .u64 xn) ∧ w'.cell? ⟨w.heap.size, 3, none⟩ = some (.string xt) ∧ w'.cell? ⟨w.heap.size, 4, none⟩ = some (.slice xa1 xn1 xc1) ∧ w'.cell? ⟨w.heap.size, 5, none⟩ = some (.string xr) ∧ w'.cell? ⟨w.heap.size, 6, none⟩ = some (.slice xa2 xn2 xc2) ∧ w'.cell? ⟨w.heap.size, 7, none⟩ = some (.slice xa3 xn3 xc3)) ∧ (w'.cell? ⟨w.heap.size + 1, 0, none⟩ = some (.int .i64 m) ∧ w'.cell? ⟨w.heap.size + 1, 1, none⟩ = some (.int .i64 yk) ∧ w'.cell? ⟨w.heap.size + 1, 2, none⟩ = some (.int .u64 yn) ∧ w'.cell? ⟨w.heap.size + 1, 3, none⟩ = some (.string yt) ∧ w'.cell? ⟨w.heap.size + 1, 4, none⟩ = some (.slice ya1 yn1 yc1) ∧ w'.cell? ⟨w.heap.size + 1, 5, none⟩ = some (.string yr) ∧ w'.cell? ⟨w.heap.size + 1, 6, none⟩ = some (.slice ya2 yn2 yc2) ∧ w'.cell? ⟨w.heap.size + 1, 7, none⟩ = some (.slice ya3 yn3 yc3)))) := by
    refine ⟨by simp, fun w' hb => ⟨⟨?_, ?_, ?_, ?_, ?_, ?_, ?_, ?_⟩, ?_, ?_, ?_, ?_, ?_, ?_, ?_, ?_⟩⟩
    all_goals
      rw [hb.cell (by simp)]
      simp
  have HB : ∀ w', (((w'.cell? ⟨w.heap.size, 0, none⟩ = some (.int .i64 n) ∧ w'.cell? ⟨w.heap.size, 1, none⟩ = some (.int .i64 xk) ∧ w'.cell? ⟨w.heap.size, 2, none⟩ = some (.int .u64 xn) ∧ w'.cell? ⟨w.heap.size, 3, none⟩ = some (.string xt) ∧ w'.cell? ⟨w.heap.size, 4, none⟩ = some (.slice xa1 xn1 xc1) ∧ w'.cell? ⟨w.heap.size, 5, none⟩ = some (.string xr) ∧ w'.cell? ⟨w.heap.size, 6, none⟩ = some (.slice xa2 xn2 xc2) ∧ w'.cell? ⟨w.heap.size, 7, none⟩ = some (.slice xa3 xn3 xc3)) ∧ (w'.cell? ⟨w.heap.size + 1, 0, none⟩ = some (.int .i64 m) ∧ w'.cell? ⟨w.heap.size + 1, 1, none⟩ = some (.int .i64 yk) ∧ w'.cell? ⟨w.heap.size + 1, 2, none⟩ = some (.int .u64 yn) ∧ w'.cell? ⟨w.heap.size + 1, 3, none⟩ = some (.string yt) ∧ w'.cell? ⟨w.heap.size + 1, 4, none⟩ = some (.slice ya1 yn1 yc1) ∧ w'.cell? ⟨w.heap.size + 1, 5, none⟩ = some (.string yr) ∧ w'.cell? ⟨w.heap.size + 1, 6, none⟩ = some (.slice ya2 yn2 yc2) ∧ w'.cell? ⟨w.heap.size + 1, 7, none⟩ = some (.slice ya3 yn3 yc3))) ∧ Below (w.heap.size + 2) ((w.alloc (.cells #[.int .i64 n, .int .i64 xk, .int .u64 xn, .string xt, .slice xa1 xn1 xc1, .string xr, .slice xa2 xn2 xc2, .slice xa3 xn3 xc3] 59)).alloc (.cells #[.int .i64 m, .int .i64 yk, .int .u64 yn, .string yt, .slice ya1 yn1 yc1, .string yr, .slice ya2 yn2 yc2, .slice ya3 yn3 yc3] 59)) w') → Below w.heap.size w w' := fun w' h => (((Below.refl w.heap.size w).alloc (Nat.le_refl _) _).alloc (by simp) _).trans (h.2.mono (by omega))
  have HB := Lib.hid HB; have HK := Lib.hid HK
  go_region_held3 (fun w' => ((w'.cell? ⟨w.heap.size, 0, none⟩ = some (.int .i64 n) ∧ w'.cell? ⟨w.heap.size, 1, none⟩ = some (.int .i64 xk) ∧ w'.cell? ⟨w.heap.size, 2, none⟩ = some (.int .u64 xn) ∧ w'.cell? ⟨w.heap.size, 3, none⟩ = some (.string xt) ∧ w'.cell? ⟨w.heap.size, 4, none⟩ = some (.slice xa1 xn1 xc1) ∧ w'.cell? ⟨w.heap.size, 5, none⟩ = some (.string xr) ∧ w'.cell? ⟨w.heap.size, 6, none⟩ = some (.slice xa2 xn2 xc2) ∧ w'.cell? ⟨w.heap.size, 7, none⟩ = some (.slice xa3 xn3 xc3)) ∧ (w'.cell? ⟨w.heap.size + 1, 0, none⟩ = some (.int .i64 m) ∧ w'.cell? ⟨w.heap.size + 1, 1, none⟩ = some (.int .i64 yk) ∧ w'.cell? ⟨w.heap.size + 1, 2, none⟩ = some (.int .u64 yn) ∧ w'.cell? ⟨w.heap.size + 1, 3, none⟩ = some (.string yt) ∧ w'.cell? ⟨w.heap.size + 1, 4, none⟩ = some (.slice ya1 yn1 yc1) ∧ w'.cell? ⟨w.heap.size + 1, 5, none⟩ = some (.string yr) ∧ w'.cell? ⟨w.heap.size + 1, 6, none⟩ = some (.slice ya2 yn2 yc2) ∧ w'.cell? ⟨w.heap.size + 1, 7, none⟩ = some (.slice ya3 yn3 yc3))) ∧ Below (w.heap.size + 2) ((w.alloc (.cells #[.int .i64 n, .int .i64 xk, .int .u64 xn, .string xt, .slice xa1 xn1 xc1, .string xr, .slice xa2 xn2 xc2, .slice xa3 xn3 xc3] 59)).alloc (.cells #[.int .i64 m, .int .i64 yk, .int .u64 yn, .string yt, .slice ya1 yn1 yc1, .string yr, .slice ya2 yn2 yc2, .slice ya3 yn3 yc3] 59)) w')
    (first | assumption | exact HK.out.start | exact HK.out.call (by assumption) (by assumption) | exact HK.out.alloc (by assumption) _)
    (first
    | (go_at_call 36; refine (cmp_int _ _ _).mono ?_; rintro e w' ⟨rfl, rfl⟩)
    | (go_at_call 17; refine (HI.out _ (HB.out _ (by assumption))).mono ?_; rintro e w2 ⟨rfl, hb2⟩)
    | (go_at_call 39; refine (or_made _ _ _).mono ?_; rintro e w' ⟨rfl, rfl⟩))
  all_goals
    go_wp2_with fail
    go_ret
    exact ⟨rfl, HB.out _ (by assumption)⟩

set_option maxRecDepth 100000 in
set_option maxHeartbeats 4000000 in
theorem order_par (N : Nat) (ih : CompareAt N) (k l x y : V) (kc lc xc yc : List Value) (w : World) (hsk : SizeOf.sizeOf k < N) (hs : SizeOf.sizeOf x < N) (hk : VR (frag w) k kc) (hl : VR (frag w) l lc) (hx : VR (frag w) x xc) (hy : VR (frag w) y yc) :
    Calls Tryd.prog 44 #[.agg (kc ++ xc).toArray, .agg (lc ++ yc).toArray] w fun e w' => e = .returned (.int .i64 (orr (cmp k l) (cmp x y))) ∧ Below w.heap.size w w' := by
  have HI := Lib.hid (fun (wx : World) (hb : Below w.heap.size w wx) => ih x y xc yc wx hs (hx.mono (below_le hb)) (hy.mono (below_le hb)))
  have HJ := Lib.hid (fun (wx : World) (hb : Below w.heap.size w wx) => ih k l kc lc wx hsk (hk.mono (below_le hb)) (hl.mono (below_le hb)))
  obtain ⟨xk, xn, xt, xr, xa1, xn1, xc1, xa2, xn2, xc2, xa3, xn3, xc3, rfl⟩ := hx.shape
  obtain ⟨yk, yn, yt, yr, ya1, yn1, yc1, ya2, yn2, yc2, ya3, yn3, yc3, rfl⟩ := hy.shape
  obtain ⟨pk, pn, pt, pr, pa1, pn1, pc1, pa2, pn2, pc2, pa3, pn3, pc3, rfl⟩ := hk.shape
  obtain ⟨qk, qn, qt, qr, qa1, qn1, qc1, qa2, qn2, qc2, qa3, qn3, qc3, rfl⟩ := hl.shape
  clear hx hy hk hl ih
  simp only [List.cons_append, List.nil_append]
  go_enter Tryd.func44, Tryd.ntmps44
  go_wp2_with fail
  have HK : Held (w.heap.size + 2) ((w.alloc (.cells #[.int .i64 pk, .int .u64 pn, .string pt, .slice pa1 pn1 pc1, .string pr, .slice pa2 pn2 pc2, .slice pa3 pn3 pc3, .int .i64 xk, .int .u64 xn, .string xt, .slice xa1 xn1 xc1, .string xr, .slice xa2 xn2 xc2, .slice xa3 xn3 xc3] 61)).alloc (.cells #[.int .i64 qk, .int .u64 qn, .string qt, .slice qa1 qn1 qc1, .string qr, .slice qa2 qn2 qc2, .slice qa3 qn3 qc3, .int .i64 yk, .int .u64 yn, .string yt, .slice ya1 yn1 yc1, .string yr, .slice ya2 yn2 yc2, .slice ya3 yn3 yc3] 61)) (fun w' => ((w'.cell? ⟨w.heap.size, 0, none⟩ = some (.int .i64 pk) ∧ w'.cell? ⟨w.heap.size, 1, none⟩ = some (.int .u64 pn) ∧ w'.cell? ⟨w.heap.size, 2, none⟩ = some (.string pt) ∧ w'.cell? ⟨w.heap.size, 3, none⟩ = some (.slice pa1 pn1 pc1) ∧ w'.cell? ⟨w.heap.size, 4, none⟩ = some (.string pr) ∧ w'.cell? ⟨w.heap.size, 5, none⟩ = some (.slice pa2 pn2 pc2) ∧ w'.cell? ⟨w.heap.size, 6, none⟩ = some (.slice pa3 pn3 pc3) ∧ w'.cell? ⟨w.heap.size, 7, none⟩ = some (.int .i64 xk) ∧ w'.cell? ⟨w.heap.size, 8, none⟩ = some (.int .u64 xn) ∧ w'.cell? ⟨w.heap.size, 9, none⟩ = some (.string xt) ∧ w'.cell? ⟨w.heap.size, 10, none⟩ = some (.slice xa1 xn1 xc1) ∧ w'.cell? ⟨w.heap.size, 11, none⟩ = some (.string xr) ∧ w'.cell? ⟨w.heap.size, 12, none⟩ = some (.slice xa2 xn2 xc2) ∧ w'.cell? ⟨w.heap.size, 13, none⟩ = some (.slice xa3 xn3 xc3)) ∧ (w'.cell? ⟨w.heap.size + 1, 0, none⟩ = some (.int .i64 qk) ∧ w'.cell? ⟨w.heap.size + 1, 1, none⟩ = some (.int .u64 qn) ∧ w'.cell? ⟨w.heap.size + 1, 2, none⟩ = some (.string qt) ∧ w'.cell? ⟨w.heap.size + 1, 3, none⟩ = some (.slice qa1 qn1 qc1) ∧ w'.cell? ⟨w.heap.size + 1, 4, none⟩ = some (.string qr) ∧ w'.cell? ⟨w.heap.size + 1, 5, none⟩ = some (.slice qa2 qn2 qc2) ∧ w'.cell? ⟨w.heap.size + 1, 6, none⟩ = some (.slice qa3 qn3 qc3) ∧ w'.cell? ⟨w.heap.size + 1, 7, none⟩ = some (.int .i64 yk) ∧ w'.cell? ⟨w.heap.size + 1, 8, none⟩ = some (.int .u64 yn) ∧ w'.cell? ⟨w.heap.size + 1, 9, none⟩ = some (.string yt) ∧ w'.cell? ⟨w.heap.size + 1, 10, none⟩ = some (.slice ya1 yn1 yc1) ∧ w'.cell? ⟨w.heap.size + 1, 11, none⟩ = some (.string yr) ∧ w'.cell? ⟨w.heap.size + 1, 12, none⟩ = some (.slice ya2 yn2 yc2) ∧ w'.cell? ⟨w.heap.size + 1, 13, none⟩ = some (.slice ya3 yn3 yc3)))) := by
    refine ⟨by simp, fun w' hb => ⟨⟨?_, ?_, ?_, ?_, ?_, ?_, ?_, ?_, ?_, ?_, ?_, ?_, ?_, ?_⟩, ?_, ?_, ?_, ?_, ?_, ?_, ?_, ?_, ?_, ?_, ?_, ?_, ?_, ?_⟩⟩
    all_goals
      rw [hb.cell (by simp)]
      simp
  have HB : ∀ w', (((w'.cell? ⟨w.heap.size, 0, none⟩ = some (.int .i64 pk) ∧ w'.cell? ⟨w.heap.size, 1, none⟩ = some (.int .u64 pn) ∧ w'.cell? ⟨w.heap.size, 2, none⟩ = some (.string pt) ∧ w'.cell? ⟨w.heap.size, 3, none⟩ = some (.slice pa1 pn1 pc1) ∧ w'.cell? ⟨w.heap.size, 4, none⟩ = some (.string pr) ∧ w'.cell? ⟨w.heap.size, 5, none⟩ = some (.slice pa2 pn2 pc2) ∧ w'.cell? ⟨w.heap.size, 6, none⟩ = some (.slice pa3 pn3 pc3) ∧ w'.cell? ⟨w.heap.size, 7, none⟩ = some (.int .i64 xk) ∧ w'.cell? ⟨w.heap.size, 8, none⟩ = some (.int .u64 xn) ∧ w'.cell? ⟨w.heap.size, 9, none⟩ = some (.string xt) ∧ w'.cell? ⟨w.heap.size, 10, none⟩ = some (.slice xa1 xn1 xc1) ∧ w'.cell? ⟨w.heap.size, 11, none⟩ = some (.string xr) ∧ w'.cell? ⟨w.heap.size, 12, none⟩ = some (.slice xa2 xn2 xc2) ∧ w'.cell? ⟨w.heap.size, 13, none⟩ = some (.slice xa3 xn3 xc3)) ∧ (w'.cell? ⟨w.heap.size + 1, 0, none⟩ = some (.int .i64 qk) ∧ w'.cell? ⟨w.heap.size + 1, 1, none⟩ = some (.int .u64 qn) ∧ w'.cell? ⟨w.heap.size + 1, 2, none⟩ = some (.string qt) ∧ w'.cell? ⟨w.heap.size + 1, 3, none⟩ = some (.slice qa1 qn1 qc1) ∧ w'.cell? ⟨w.heap.size + 1, 4, none⟩ = some (.string qr) ∧ w'.cell? ⟨w.heap.size + 1, 5, none⟩ = some (.slice qa2 qn2 qc2) ∧ w'.cell? ⟨w.heap.size + 1, 6, none⟩ = some (.slice qa3 qn3 qc3) ∧ w'.cell? ⟨w.heap.size + 1, 7, none⟩ = some (.int .i64 yk) ∧ w'.cell? ⟨w.heap.size + 1, 8, none⟩ = some (.int .u64 yn) ∧ w'.cell? ⟨w.heap.size + 1, 9, none⟩ = some (.string yt) ∧ w'.cell? ⟨w.heap.size + 1, 10, none⟩ = some (.slice ya1 yn1 yc1) ∧ w'.cell? ⟨w.heap.size + 1, 11, none⟩ = some (.string yr) ∧ w'.cell? ⟨w.heap.size + 1, 12, none⟩ = some (.slice ya2 yn2 yc2) ∧ w'.cell? ⟨w.heap.size + 1, 13, none⟩ = some (.slice ya3 yn3 yc3))) ∧ Below (w.heap.size + 2) ((w.alloc (.cells #[.int .i64 pk, .int .u64 pn, .string pt, .slice pa1 pn1 pc1, .string pr, .slice pa2 pn2 pc2, .slice pa3 pn3 pc3, .int .i64 xk, .int .u64 xn, .string xt, .slice xa1 xn1 xc1, .string xr, .slice xa2 xn2 xc2, .slice xa3 xn3 xc3] 61)).alloc (.cells #[.int .i64 qk, .int .u64 qn, .string qt, .slice qa1 qn1 qc1, .string qr, .slice qa2 qn2 qc2, .slice qa3 qn3 qc3, .int .i64 yk, .int .u64 yn, .string yt, .slice ya1 yn1 yc1, .string yr, .slice ya2 yn2 yc2, .slice ya3 yn3 yc3] 61)) w') → Below w.heap.size w w' := fun w' h => (((Below.refl w.heap.size w).alloc (Nat.le_refl _) _).alloc (by simp) _).trans (h.2.mono (by omega))
  have HB := Lib.hid HB; have HK := Lib.hid HK
  go_region_held3 (fun w' => ((w'.cell? ⟨w.heap.size, 0, none⟩ = some (.int .i64 pk) ∧ w'.cell? ⟨w.heap.size, 1, none⟩ = some (.int .u64 pn) ∧ w'.cell? ⟨w.heap.size, 2, none⟩ = some (.string pt) ∧ w'.cell? ⟨w.heap.size, 3, none⟩ = some (.slice pa1 pn1 pc1) ∧ w'.cell? ⟨w.heap.size, 4, none⟩ = some (.string pr) ∧ w'.cell? ⟨w.heap.size, 5, none⟩ = some (.slice pa2 pn2 pc2) ∧ w'.cell? ⟨w.heap.size, 6, none⟩ = some (.slice pa3 pn3 pc3) ∧ w'.cell? ⟨w.heap.size, 7, none⟩ = some (.int .i64 xk) ∧ w'.cell? ⟨w.heap.size, 8, none⟩ = some (.int .u64 xn) ∧ w'.cell? ⟨w.heap.size, 9, none⟩ = some (.string xt) ∧ w'.cell? ⟨w.heap.size, 10, none⟩ = some (.slice xa1 xn1 xc1) ∧ w'.cell? ⟨w.heap.size, 11, none⟩ = some (.string xr) ∧ w'.cell? ⟨w.heap.size, 12, none⟩ = some (.slice xa2 xn2 xc2) ∧ w'.cell? ⟨w.heap.size, 13, none⟩ = some (.slice xa3 xn3 xc3)) ∧ (w'.cell? ⟨w.heap.size + 1, 0, none⟩ = some (.int .i64 qk) ∧ w'.cell? ⟨w.heap.size + 1, 1, none⟩ = some (.int .u64 qn) ∧ w'.cell? ⟨w.heap.size + 1, 2, none⟩ = some (.string qt) ∧ w'.cell? ⟨w.heap.size + 1, 3, none⟩ = some (.slice qa1 qn1 qc1) ∧ w'.cell? ⟨w.heap.size + 1, 4, none⟩ = some (.string qr) ∧ w'.cell? ⟨w.heap.size + 1, 5, none⟩ = some (.slice qa2 qn2 qc2) ∧ w'.cell? ⟨w.heap.size + 1, 6, none⟩ = some (.slice qa3 qn3 qc3) ∧ w'.cell? ⟨w.heap.size + 1, 7, none⟩ = some (.int .i64 yk) ∧ w'.cell? ⟨w.heap.size + 1, 8, none⟩ = some (.int .u64 yn) ∧ w'.cell? ⟨w.heap.size + 1, 9, none⟩ = some (.string yt) ∧ w'.cell? ⟨w.heap.size + 1, 10, none⟩ = some (.slice ya1 yn1 yc1) ∧ w'.cell? ⟨w.heap.size + 1, 11, none⟩ = some (.string yr) ∧ w'.cell? ⟨w.heap.size + 1, 12, none⟩ = some (.slice ya2 yn2 yc2) ∧ w'.cell? ⟨w.heap.size + 1, 13, none⟩ = some (.slice ya3 yn3 yc3))) ∧ Below (w.heap.size + 2) ((w.alloc (.cells #[.int .i64 pk, .int .u64 pn, .string pt, .slice pa1 pn1 pc1, .string pr, .slice pa2 pn2 pc2, .slice pa3 pn3 pc3, .int .i64 xk, .int .u64 xn, .string xt, .slice xa1 xn1 xc1, .string xr, .slice xa2 xn2 xc2, .slice xa3 xn3 xc3] 61)).alloc (.cells #[.int .i64 qk, .int .u64 qn, .string qt, .slice qa1 qn1 qc1, .string qr, .slice qa2 qn2 qc2, .slice qa3 qn3 qc3, .int .i64 yk, .int .u64 yn, .string yt, .slice ya1 yn1 yc1, .string yr, .slice ya2 yn2 yc2, .slice ya3 yn3 yc3] 61)) w')
    (first | assumption | exact HK.out.start | exact HK.out.call (by assumption) (by assumption) | exact HK.out.alloc (by assumption) _)
    (first
    | (go_at_call 17; first | (with_reducible refine (HI.out _ (HB.out _ (by assumption))).mono ?_; rintro e w2 ⟨rfl, hb2⟩) | (with_reducible refine (HJ.out _ (HB.out _ (by assumption))).mono ?_; rintro e w3 ⟨rfl, hb3⟩))
    | (go_at_call 39; refine (or_made _ _ _).mono ?_; rintro e w' ⟨rfl, rfl⟩))
  all_goals
    go_wp2_with fail
    go_ret
    exact ⟨rfl, HB.out _ (by assumption)⟩

set_option maxRecDepth 100000 in
set_option maxHeartbeats 4000000 in
theorem compare_step (N : Nat) (ih : CompareAt N) : CompareAt (N + 1) := by
  intro x y xc yc w hs hx hy
  obtain ⟨xk, xn, xt, xf, xr, xl, xp⟩ := x
  obtain ⟨yk, yn, yt, yf, yr, yl, yp⟩ := y
  have hsF : ∀ e ∈ xf, SizeOf.sizeOf e.2 < N := fun e he => by have := Val.size_field (x := .mk xk xn xt xf xr xl xp) (m := e.1) (v := e.2) he; omega
  have hsL : ∀ e ∈ xl, SizeOf.sizeOf e < N := fun e he => by have := Val.size_list (x := .mk xk xn xt xf xr xl xp) (v := e) he; omega
  have hsP : ∀ e ∈ xp, SizeOf.sizeOf e.1 < N ∧ SizeOf.sizeOf e.2 < N := fun e he => by have := Val.size_pair (x := .mk xk xn xt xf xr xl xp) (k := e.1) (v := e.2) he; omega
  rw [VR] at hx hy
  obtain ⟨xfv, xlv, xpv, xfe, xle, xpe, rfl, _, ⟨hxf, hxl, hxp⟩, hxF, hxL, hxP⟩ := hx
  obtain ⟨yfv, ylv, ypv, yfe, yle, ype, rfl, _, ⟨hyf, hyl, hyp⟩, hyF, hyL, hyP⟩ := hy
  rw [cmp]
  have HF : ∀ wx, Below w.heap.size w wx → Calls Tryd.prog 40 #[xfv, yfv, .func (.func 41) #[] #[]] wx fun e w' => e = .returned (.int .i64 (cmpF xf yf)) ∧ Below wx.heap.size wx w' := by
    intro wx hb
    rw [Val.cmpF_lex]
    have := comparefunc_fld xfe yfe (fun i => orr (ocmp (xf.getD i (0, Val.v0)).1 (yf.getD i (0, Val.v0)).1) (cmp (xf.getD i (0, Val.v0)).2 (yf.getD i (0, Val.v0)).2)) xfv yfv 41 wx (hxf.mono (below_le hb)) (hyf.mono (below_le hb)) hxF.shapes hyF.shapes (enters_of Tryd.func41 (by kernel_rfl) rfl) ?_
    · rw [hxF.len, hyF.len] at this; exact this
    · intro i h1 h2 wy hb2
      have h1' : i < xf.length := by rw [← hxF.len]; exact h1
      have h2' : i < yf.length := by rw [← hyF.len]; exact h2
      obtain ⟨xc, e1, r1⟩ := hxF.at h1' h1
      obtain ⟨yc, e2, r2⟩ := hyF.at h2' h2
      have hle := (below_le hb).trans (below_le hb2)
      rw [e1, e2]
      simp only [List.getD_eq_getElem?_getD, List.getElem?_eq_getElem h1', List.getElem?_eq_getElem h2', Option.getD_some]
      exact order_fld N ih _ _ _ _ xc yc wy (hsF _ (List.getElem_mem _)) (r1.mono hle) (r2.mono hle)
  have HL : ∀ wx, Below w.heap.size w wx → Calls Tryd.prog 42 #[xlv, ylv, .func (.func 17) #[] #[]] wx fun e w' => e = .returned (.int .i64 (cmpL xl yl)) ∧ Below wx.heap.size wx w' := by
    intro wx hb
    rw [Val.cmpL_lex]
    have := comparefunc_val xle yle (fun i => cmp (xl.getD i Val.v0) (yl.getD i Val.v0)) xlv ylv 17 wx (hxl.mono (below_le hb)) (hyl.mono (below_le hb)) hxL.shapes hyL.shapes (enters_of Tryd.func17 (by kernel_rfl) rfl) ?_
    · rw [hxL.len, hyL.len] at this; exact this
    · intro i h1 h2 wy hb2
      have h1' : i < xl.length := by rw [← hxL.len]; exact h1
      have h2' : i < yl.length := by rw [← hyL.len]; exact h2
      have hle := (below_le hb).trans (below_le hb2)
      simp only [List.getD_eq_getElem?_getD, List.getElem?_eq_getElem h1', List.getElem?_eq_getElem h2', Option.getD_some]
      exact ih _ _ _ _ wy (hsL _ (List.getElem_mem _)) ((hxL.at h1' h1).mono hle) ((hyL.at h2' h2).mono hle)
  have HP : ∀ wx, Below w.heap.size w wx → Calls Tryd.prog 43 #[xpv, ypv, .func (.func 44) #[] #[]] wx fun e w' => e = .returned (.int .i64 (cmpP xp yp)) ∧ Below wx.heap.size wx w' := by
    intro wx hb
    rw [Val.cmpP_lex]
    have := comparefunc_par xpe ype (fun i => orr (cmp (xp.getD i (Val.v0, Val.v0)).1 (yp.getD i (Val.v0, Val.v0)).1) (cmp (xp.getD i (Val.v0, Val.v0)).2 (yp.getD i (Val.v0, Val.v0)).2)) xpv ypv 44 wx (hxp.mono (below_le hb)) (hyp.mono (below_le hb)) hxP.shapes hyP.shapes (enters_of Tryd.func44 (by kernel_rfl) rfl) ?_
    · rw [hxP.len, hyP.len] at this; exact this
    · intro i h1 h2 wy hb2
      have h1' : i < xp.length := by rw [← hxP.len]; exact h1
      have h2' : i < yp.length := by rw [← hyP.len]; exact h2
      obtain ⟨kc, xc, e1, q1, r1⟩ := hxP.at h1' h1
      obtain ⟨lc, yc, e2, q2, r2⟩ := hyP.at h2' h2
      have hle := (below_le hb).trans (below_le hb2)
      rw [e1, e2]
      simp only [List.getD_eq_getElem?_getD, List.getElem?_eq_getElem h1', List.getElem?_eq_getElem h2', Option.getD_some]
      exact order_par N ih _ _ _ _ kc lc xc yc wy (hsP _ (List.getElem_mem _)).1 (hsP _ (List.getElem_mem _)).2 (q1.mono hle) (q2.mono hle) (r1.mono hle) (r2.mono hle)
  obtain ⟨xa1, xc1, rfl, _⟩ := hxf.len
  obtain ⟨xa2, xc2, rfl, _⟩ := hxl.len
  obtain ⟨xa3, xc3, rfl, _⟩ := hxp.len
  obtain ⟨ya1, yc1, rfl, _⟩ := hyf.len
  obtain ⟨ya2, yc2, rfl, _⟩ := hyl.len
  obtain ⟨ya3, yc3, rfl, _⟩ := hyp.len
  have HF := Lib.hid HF; have HL := Lib.hid HL; have HP := Lib.hid HP
  clear hxf hxl hxp hyf hyl hyp hxF hxL hxP hyF hyL hyP hsF hsL hsP ih
  generalize xfe.length = xn1 at *
  generalize xle.length = xn2 at *
  generalize xpe.length = xn3 at *
  generalize yfe.length = yn1 at *
  generalize yle.length = yn2 at *
  generalize ype.length = yn3 at *
  have hb0 : Below w.heap.size w ((w.alloc (.cells #[.int .i64 xk, .int .u64 xn, .string xt, .slice xa1 xn1 xc1, .string xr, .slice xa2 xn2 xc2, .slice xa3 xn3 xc3] 27)).alloc (.cells #[.int .i64 yk, .int .u64 yn, .string yt, .slice ya1 yn1 yc1, .string yr, .slice ya2 yn2 yc2, .slice ya3 yn3 yc3] 27)) := ((Below.refl _ _).alloc (Nat.le_refl _) _).alloc (by simp) _
  by_cases hk : xk = yk
  · subst hk
    rw [if_pos rfl]
    by_cases h1 : xk = 1
    · subst h1
      rw [if_pos rfl]
      go_enter Tryd.func17, Tryd.ntmps17
      go_wp2_with (go_at_call 37; refine (cmp_u64 _ _ _).mono ?_; rintro e w' ⟨rfl, rfl⟩)
      go_ret
      exact ⟨rfl, hb0⟩
    · by_cases h2 : xk = 2
      · subst h2
        rw [if_neg (by omega), if_pos rfl]
        go_enter Tryd.func17, Tryd.ntmps17
        go_wp2_with (go_at_call 38; refine (cmp_str _ _ _).mono ?_; rintro e w' ⟨rfl, rfl⟩)
        go_ret
        exact ⟨rfl, hb0⟩
      · by_cases h3 : xk = 3
        · subst h3
          rw [if_neg (by omega), if_neg (by omega), if_pos rfl]
          have Hb0 := Lib.hid hb0; clear hb0
          go_enter Tryd.func17, Tryd.ntmps17
          go_wp2_with fail
          have HK : Held (w.heap.size + 2) ((w.alloc (.cells #[.int .i64 3, .int .u64 xn, .string xt, .slice xa1 xn1 xc1, .string xr, .slice xa2 xn2 xc2, .slice xa3 xn3 xc3] 27)).alloc (.cells #[.int .i64 3, .int .u64 yn, .string yt, .slice ya1 yn1 yc1, .string yr, .slice ya2 yn2 yc2, .slice ya3 yn3 yc3] 27)) (fun w' => ((w'.cell? ⟨w.heap.size, 0, none⟩ = some (.int .i64 3) ∧ w'.cell? ⟨w.heap.size, 1, none⟩ = some (.int .u64 xn) ∧ w'.cell? ⟨w.heap.size, 2, none⟩ = some (.string xt) ∧ w'.cell? ⟨w.heap.size, 3, none⟩ = some (.slice xa1 xn1 xc1) ∧ w'.cell? ⟨w.heap.size, 4, none⟩ = some (.string xr) ∧ w'.cell? ⟨w.heap.size, 5, none⟩ = some (.slice xa2 xn2 xc2) ∧ w'.cell? ⟨w.heap.size, 6, none⟩ = some (.slice xa3 xn3 xc3)) ∧ (w'.cell? ⟨w.heap.size + 1, 0, none⟩ = some (.int .i64 3) ∧ w'.cell? ⟨w.heap.size + 1, 1, none⟩ = some (.int .u64 yn) ∧ w'.cell? ⟨w.heap.size + 1, 2, none⟩ = some (.string yt) ∧ w'.cell? ⟨w.heap.size + 1, 3, none⟩ = some (.slice ya1 yn1 yc1) ∧ w'.cell? ⟨w.heap.size + 1, 4, none⟩ = some (.string yr) ∧ w'.cell? ⟨w.heap.size + 1, 5, none⟩ = some (.slice ya2 yn2 yc2) ∧ w'.cell? ⟨w.heap.size + 1, 6, none⟩ = some (.slice ya3 yn3 yc3)))) := by
            refine ⟨by simp, fun w' hb => ⟨⟨?_, ?_, ?_, ?_, ?_, ?_, ?_⟩, ?_, ?_, ?_, ?_, ?_, ?_, ?_⟩⟩
            all_goals
              rw [hb.cell (by simp)]
              simp
          have HB : ∀ w', (((w'.cell? ⟨w.heap.size, 0, none⟩ = some (.int .i64 3) ∧ w'.cell? ⟨w.heap.size, 1, none⟩ = some (.int .u64 xn) ∧ w'.cell? ⟨w.heap.size, 2, none⟩ = some (.string xt) ∧ w'.cell? ⟨w.heap.size, 3, none⟩ = some (.slice xa1 xn1 xc1) ∧ w'.cell? ⟨w.heap.size, 4, none⟩ = some (.string xr) ∧ w'.cell? ⟨w.heap.size, 5, none⟩ = some (.slice xa2 xn2 xc2) ∧ w'.cell? ⟨w.heap.size, 6, none⟩ = some (.slice xa3 xn3 xc3)) ∧ (w'.cell? ⟨w.heap.size + 1, 0, none⟩ = some (.int .i64 3) ∧ w'.cell? ⟨w.heap.size + 1, 1, none⟩ = some (.int .u64 yn) ∧ w'.cell? ⟨w.heap.size + 1, 2, none⟩ = some (.string yt) ∧ w'.cell? ⟨w.heap.size + 1, 3, none⟩ = some (.slice ya1 yn1 yc1) ∧ w'.cell? ⟨w.heap.size + 1, 4, none⟩ = some (.string yr) ∧ w'.cell? ⟨w.heap.size + 1, 5, none⟩ = some (.slice ya2 yn2 yc2) ∧ w'.cell? ⟨w.heap.size + 1, 6, none⟩ = some (.slice ya3 yn3 yc3))) ∧ Below (w.heap.size + 2) ((w.alloc (.cells #[.int .i64 3, .int .u64 xn, .string xt, .slice xa1 xn1 xc1, .string xr, .slice xa2 xn2 xc2, .slice xa3 xn3 xc3] 27)).alloc (.cells #[.int .i64 3, .int .u64 yn, .string yt, .slice ya1 yn1 yc1, .string yr, .slice ya2 yn2 yc2, .slice ya3 yn3 yc3] 27)) w') → Below w.heap.size w w' := fun w' h => (((Below.refl w.heap.size w).alloc (Nat.le_refl _) _).alloc (by simp) _).trans (h.2.mono (by omega))
          have HB := Lib.hid HB; have HK := Lib.hid HK
          go_region_held3 (fun w' => ((w'.cell? ⟨w.heap.size, 0, none⟩ = some (.int .i64 3) ∧ w'.cell? ⟨w.heap.size, 1, none⟩ = some (.int .u64 xn) ∧ w'.cell? ⟨w.heap.size, 2, none⟩ = some (.string xt) ∧ w'.cell? ⟨w.heap.size, 3, none⟩ = some (.slice xa1 xn1 xc1) ∧ w'.cell? ⟨w.heap.size, 4, none⟩ = some (.string xr) ∧ w'.cell? ⟨w.heap.size, 5, none⟩ = some (.slice xa2 xn2 xc2) ∧ w'.cell? ⟨w.heap.size, 6, none⟩ = some (.slice xa3 xn3 xc3)) ∧ (w'.cell? ⟨w.heap.size + 1, 0, none⟩ = some (.int .i64 3) ∧ w'.cell? ⟨w.heap.size + 1, 1, none⟩ = some (.int .u64 yn) ∧ w'.cell? ⟨w.heap.size + 1, 2, none⟩ = some (.string yt) ∧ w'.cell? ⟨w.heap.size + 1, 3, none⟩ = some (.slice ya1 yn1 yc1) ∧ w'.cell? ⟨w.heap.size + 1, 4, none⟩ = some (.string yr) ∧ w'.cell? ⟨w.heap.size + 1, 5, none⟩ = some (.slice ya2 yn2 yc2) ∧ w'.cell? ⟨w.heap.size + 1, 6, none⟩ = some (.slice ya3 yn3 yc3))) ∧ Below (w.heap.size + 2) ((w.alloc (.cells #[.int .i64 3, .int .u64 xn, .string xt, .slice xa1 xn1 xc1, .string xr, .slice xa2 xn2 xc2, .slice xa3 xn3 xc3] 27)).alloc (.cells #[.int .i64 3, .int .u64 yn, .string yt, .slice ya1 yn1 yc1, .string yr, .slice ya2 yn2 yc2, .slice ya3 yn3 yc3] 27)) w')
            (first | assumption | exact HK.out.start | exact HK.out.call (by assumption) (by assumption) | exact HK.out.alloc (by assumption) _)
            (first
            | (go_at_call 40; refine (HF.out _ (HB.out _ (by assumption))).mono ?_; rintro e w2 ⟨rfl, hb2⟩)
            | (go_at_call 38; refine (cmp_str _ _ _).mono ?_; rintro e w' ⟨rfl, rfl⟩)
            | (go_at_call 39; refine (or_made _ _ _).mono ?_; rintro e w' ⟨rfl, rfl⟩))
          all_goals
            go_wp2_with fail
            go_ret
            exact ⟨rfl, HB.out _ (by assumption)⟩
        · by_cases h4 : xk = 4
          · subst h4
            rw [if_neg (by omega), if_neg (by omega), if_neg (by omega), if_pos rfl]
            have Hb0 := Lib.hid hb0; clear hb0
            go_enter Tryd.func17, Tryd.ntmps17
            go_wp2_with fail
            refine (HL.out _ Hb0.out).mono ?_
            rintro e w' ⟨rfl, hb⟩
            go_wp2_with fail
            go_ret
            exact ⟨rfl, Hb0.out.trans (hb.mono Hb0.out.size)⟩
          · by_cases h5 : xk = 5
            · subst h5
              rw [if_neg (by omega), if_neg (by omega), if_neg (by omega), if_neg (by omega), if_pos rfl]
              have Hb0 := Lib.hid hb0; clear hb0
              go_enter Tryd.func17, Tryd.ntmps17
              go_wp2_with fail
              refine (HP.out _ Hb0.out).mono ?_
              rintro e w' ⟨rfl, hb⟩
              go_wp2_with fail
              go_ret
              exact ⟨rfl, Hb0.out.trans (hb.mono Hb0.out.size)⟩
            · rw [if_neg h1, if_neg h2, if_neg h3, if_neg h4, if_neg h5]
              have e1 : (xk == 1) = false := by simpa using h1
              have e2 : (xk == 2) = false := by simpa using h2
              have e3 : (xk == 3) = false := by simpa using h3
              have e4 : (xk == 4) = false := by simpa using h4
              have e5 : (xk == 5) = false := by simpa using h5
              clear h1 h2 h3 h4 h5
              go_enter Tryd.func17, Tryd.ntmps17
              go_wp2_with fail
              go_ret
              exact ⟨rfl, hb0⟩
  · rw [if_neg hk]
    have hk' : (xk != yk) = true := by simpa using hk
    clear hk
    go_enter Tryd.func17, Tryd.ntmps17
    go_wp2_with (go_at_call 36; refine (cmp_int _ _ _).mono ?_; rintro e w' ⟨rfl, rfl⟩)
    go_ret
    exact ⟨rfl, hb0⟩

theorem compare_at : ∀ N, CompareAt N
  | 0 => fun x y xc yc w h => by omega
  | N + 1 => compare_step N (compare_at N)
theorem compare_any (x y : V) (xc yc : List Value) (w : World) (hx : VR (frag w) x xc) (hy : VR (frag w) y yc) :
    Calls Tryd.prog 17 #[.agg xc.toArray, .agg yc.toArray] w fun e w' => e = .returned (.int .i64 (cmp x y)) ∧ Below w.heap.size w w' :=
  compare_at _ x y xc yc w (Nat.lt_succ_self _) hx hy

end Go.Proofs.YtkldcjlkeblggaaDoor
