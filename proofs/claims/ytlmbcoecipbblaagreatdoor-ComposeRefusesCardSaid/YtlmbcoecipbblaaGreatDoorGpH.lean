/- value.Compare, walked. slices.BinarySearchFunc of fields and of pairs, walked. -/
import Derived.Test.YtlmbcoecipbblaaGreatDoorGpG
import Derived.IntWalk
set_option maxRecDepth 100000
set_option maxHeartbeats 4000000
set_option linter.unusedVariables false
set_option linter.unusedSimpArgs false
namespace Go.Proofs.YtlmbcoecipbblaaGreatDoor
open Go.RowKit
open Val (V cmp cmpF cmpL cmpP ocmp orr scmp)
theorem or_made (x y : Int) (W : World) : Calls Tryz.prog 55 #[.slice (some ⟨W.heap.size, 0, none⟩) 2 2] (W.alloc (.cells #[.int .i64 x, .int .i64 y] 3)) fun e w' => e = .returned (.int .i64 (orr x y)) ∧ W.alloc (.cells #[.int .i64 x, .int .i64 y] 3) = w' :=
 or_any x y _ _ (by simp) (by rw [World.cell?_alloc_at _ _ _ _ rfl]; rfl) (by rw [World.cell?_alloc_at _ _ _ _ rfl]; rfl)
def CompareAt (N : Nat) : Prop := ∀ (x y : V) (xc yc : List Value) (w : World), SizeOf.sizeOf x < N → VR (frag w) x xc → VR (frag w) y yc →
 Calls Tryz.prog 34 #[.agg xc.toArray, .agg yc.toArray] w fun e w' => e = .returned (.int .i64 (cmp x y)) ∧ Below w.heap.size w w'
theorem order_fld (N : Nat) (ih : CompareAt N) (n m : Int) (x y : V) (xc yc : List Value) (w : World) (hs : SizeOf.sizeOf x < N) (hx : VR (frag w) x xc) (hy : VR (frag w) y yc) :
  Calls Tryz.prog 57 #[.agg (.int .i64 n :: xc).toArray, .agg (.int .i64 m :: yc).toArray] w fun e w' => e = .returned (.int .i64 (orr (ocmp n m) (cmp x y))) ∧ Below w.heap.size w w' := by
 have HI := Yq (fun (wx : World) (hb : Below w.heap.size w wx) => ih x y xc yc wx hs (hx.mono (below_le hb)) (hy.mono (below_le hb)))
 obtain ⟨xk, xn, xt, xr, xa1, xn1, xc1, xa2, xn2, xc2, xa3, xn3, xc3, rfl⟩ := hx.shape
 obtain ⟨yk, yn, yt, yr, ya1, yn1, yc1, ya2, yn2, yc2, ya3, yn3, yc3, rfl⟩ := hy.shape
 clear hx hy ih
 go_enter Tryz.func57, Tryz.ntmps57
 go_wp2_with fail
 have HK : Held (w.heap.size + 2) ((w.alloc (.cells #[.int .i64 n, .int .i64 xk, .int .u64 xn, .string xt, .slice xa1 xn1 xc1, .string xr, .slice xa2 xn2 xc2, .slice xa3 xn3 xc3] 93)).alloc (.cells #[.int .i64 m, .int .i64 yk, .int .u64 yn, .string yt, .slice ya1 yn1 yc1, .string yr, .slice ya2 yn2 yc2, .slice ya3 yn3 yc3] 93)) (fun w' => ((w'.cell? ⟨w.heap.size, 0, none⟩ = some (.int .i64 n) ∧ w'.cell? ⟨w.heap.size, 1, none⟩ = some (.int .i64 xk) ∧ w'.cell? ⟨w.heap.size, 2, none⟩ = some (.int .u64 xn) ∧ w'.cell? ⟨w.heap.size, 3, none⟩ = some (.string xt) ∧ w'.cell? ⟨w.heap.size, 4, none⟩ = some (.slice xa1 xn1 xc1) ∧ w'.cell? ⟨w.heap.size, 5, none⟩ = some (.string xr) ∧ w'.cell? ⟨w.heap.size, 6, none⟩ = some (.slice xa2 xn2 xc2) ∧ w'.cell? ⟨w.heap.size, 7, none⟩ = some (.slice xa3 xn3 xc3)) ∧ (w'.cell? ⟨w.heap.size + 1, 0, none⟩ = some (.int .i64 m) ∧ w'.cell? ⟨w.heap.size + 1, 1, none⟩ = some (.int .i64 yk) ∧ w'.cell? ⟨w.heap.size + 1, 2, none⟩ = some (.int .u64 yn) ∧ w'.cell? ⟨w.heap.size + 1, 3, none⟩ = some (.string yt) ∧ w'.cell? ⟨w.heap.size + 1, 4, none⟩ = some (.slice ya1 yn1 yc1) ∧ w'.cell? ⟨w.heap.size + 1, 5, none⟩ = some (.string yr) ∧ w'.cell? ⟨w.heap.size + 1, 6, none⟩ = some (.slice ya2 yn2 yc2) ∧ w'.cell? ⟨w.heap.size + 1, 7, none⟩ = some (.slice ya3 yn3 yc3)))) := by
  refine ⟨by simp, fun w' hb => ⟨⟨?_, ?_, ?_, ?_, ?_, ?_, ?_, ?_⟩, ?_, ?_, ?_, ?_, ?_, ?_, ?_, ?_⟩⟩
  all_goals
   rw [hb.cell (by simp)]
   simp
 have HB : ∀ w', (((w'.cell? ⟨w.heap.size, 0, none⟩ = some (.int .i64 n) ∧ w'.cell? ⟨w.heap.size, 1, none⟩ = some (.int .i64 xk) ∧ w'.cell? ⟨w.heap.size, 2, none⟩ = some (.int .u64 xn) ∧ w'.cell? ⟨w.heap.size, 3, none⟩ = some (.string xt) ∧ w'.cell? ⟨w.heap.size, 4, none⟩ = some (.slice xa1 xn1 xc1) ∧ w'.cell? ⟨w.heap.size, 5, none⟩ = some (.string xr) ∧ w'.cell? ⟨w.heap.size, 6, none⟩ = some (.slice xa2 xn2 xc2) ∧ w'.cell? ⟨w.heap.size, 7, none⟩ = some (.slice xa3 xn3 xc3)) ∧ (w'.cell? ⟨w.heap.size + 1, 0, none⟩ = some (.int .i64 m) ∧ w'.cell? ⟨w.heap.size + 1, 1, none⟩ = some (.int .i64 yk) ∧ w'.cell? ⟨w.heap.size + 1, 2, none⟩ = some (.int .u64 yn) ∧ w'.cell? ⟨w.heap.size + 1, 3, none⟩ = some (.string yt) ∧ w'.cell? ⟨w.heap.size + 1, 4, none⟩ = some (.slice ya1 yn1 yc1) ∧ w'.cell? ⟨w.heap.size + 1, 5, none⟩ = some (.string yr) ∧ w'.cell? ⟨w.heap.size + 1, 6, none⟩ = some (.slice ya2 yn2 yc2) ∧ w'.cell? ⟨w.heap.size + 1, 7, none⟩ = some (.slice ya3 yn3 yc3))) ∧ Below (w.heap.size + 2) ((w.alloc (.cells #[.int .i64 n, .int .i64 xk, .int .u64 xn, .string xt, .slice xa1 xn1 xc1, .string xr, .slice xa2 xn2 xc2, .slice xa3 xn3 xc3] 93)).alloc (.cells #[.int .i64 m, .int .i64 yk, .int .u64 yn, .string yt, .slice ya1 yn1 yc1, .string yr, .slice ya2 yn2 yc2, .slice ya3 yn3 yc3] 93)) w') → Below w.heap.size w w' := fun w' h => (((Below.refl w.heap.size w).alloc (Nat.le_refl _) _).alloc (by simp) _).trans (h.2.mono (by omega))
 have HB := Yq HB; have HK := Yq HK
 go_region_held3 (fun w' => ((w'.cell? ⟨w.heap.size, 0, none⟩ = some (.int .i64 n) ∧ w'.cell? ⟨w.heap.size, 1, none⟩ = some (.int .i64 xk) ∧ w'.cell? ⟨w.heap.size, 2, none⟩ = some (.int .u64 xn) ∧ w'.cell? ⟨w.heap.size, 3, none⟩ = some (.string xt) ∧ w'.cell? ⟨w.heap.size, 4, none⟩ = some (.slice xa1 xn1 xc1) ∧ w'.cell? ⟨w.heap.size, 5, none⟩ = some (.string xr) ∧ w'.cell? ⟨w.heap.size, 6, none⟩ = some (.slice xa2 xn2 xc2) ∧ w'.cell? ⟨w.heap.size, 7, none⟩ = some (.slice xa3 xn3 xc3)) ∧ (w'.cell? ⟨w.heap.size + 1, 0, none⟩ = some (.int .i64 m) ∧ w'.cell? ⟨w.heap.size + 1, 1, none⟩ = some (.int .i64 yk) ∧ w'.cell? ⟨w.heap.size + 1, 2, none⟩ = some (.int .u64 yn) ∧ w'.cell? ⟨w.heap.size + 1, 3, none⟩ = some (.string yt) ∧ w'.cell? ⟨w.heap.size + 1, 4, none⟩ = some (.slice ya1 yn1 yc1) ∧ w'.cell? ⟨w.heap.size + 1, 5, none⟩ = some (.string yr) ∧ w'.cell? ⟨w.heap.size + 1, 6, none⟩ = some (.slice ya2 yn2 yc2) ∧ w'.cell? ⟨w.heap.size + 1, 7, none⟩ = some (.slice ya3 yn3 yc3))) ∧ Below (w.heap.size + 2) ((w.alloc (.cells #[.int .i64 n, .int .i64 xk, .int .u64 xn, .string xt, .slice xa1 xn1 xc1, .string xr, .slice xa2 xn2 xc2, .slice xa3 xn3 xc3] 93)).alloc (.cells #[.int .i64 m, .int .i64 yk, .int .u64 yn, .string yt, .slice ya1 yn1 yc1, .string yr, .slice ya2 yn2 yc2, .slice ya3 yn3 yc3] 93)) w')
  (first | assumption | exact HK.out.start | exact HK.out.call (by assumption) (by assumption) | exact HK.out.alloc (by assumption) _)
  (first
  | (go_at_call 52; refine (cmp_int _ _ _).mono ?_; rintro e w' ⟨rfl, rfl⟩)
  | (go_at_call 34; refine (HI.out _ (HB.out _ (by assumption))).mono ?_; rintro e w2 ⟨rfl, hb2⟩)
  | (go_at_call 55; refine (or_made _ _ _).mono ?_; rintro e w' ⟨rfl, rfl⟩))
 all_goals
  go_wp2_with fail
  go_ret
  exact ⟨rfl, HB.out _ (by assumption)⟩
theorem order_par (N : Nat) (ih : CompareAt N) (k l x y : V) (kc lc xc yc : List Value) (w : World) (hsk : SizeOf.sizeOf k < N) (hs : SizeOf.sizeOf x < N) (hk : VR (frag w) k kc) (hl : VR (frag w) l lc) (hx : VR (frag w) x xc) (hy : VR (frag w) y yc) :
  Calls Tryz.prog 60 #[.agg (kc ++ xc).toArray, .agg (lc ++ yc).toArray] w fun e w' => e = .returned (.int .i64 (orr (cmp k l) (cmp x y))) ∧ Below w.heap.size w w' := by
 have HI := Yq (fun (wx : World) (hb : Below w.heap.size w wx) => ih x y xc yc wx hs (hx.mono (below_le hb)) (hy.mono (below_le hb)))
 have HJ := Yq (fun (wx : World) (hb : Below w.heap.size w wx) => ih k l kc lc wx hsk (hk.mono (below_le hb)) (hl.mono (below_le hb)))
 obtain ⟨xk, xn, xt, xr, xa1, xn1, xc1, xa2, xn2, xc2, xa3, xn3, xc3, rfl⟩ := hx.shape
 obtain ⟨yk, yn, yt, yr, ya1, yn1, yc1, ya2, yn2, yc2, ya3, yn3, yc3, rfl⟩ := hy.shape
 obtain ⟨pk, pn, pt, pr, pa1, pn1, pc1, pa2, pn2, pc2, pa3, pn3, pc3, rfl⟩ := hk.shape
 obtain ⟨qk, qn, qt, qr, qa1, qn1, qc1, qa2, qn2, qc2, qa3, qn3, qc3, rfl⟩ := hl.shape
 clear hx hy hk hl ih
 simp only [List.cons_append, List.nil_append]
 go_enter Tryz.func60, Tryz.ntmps60
 go_wp2_with fail
 have HK : Held (w.heap.size + 2) ((w.alloc (.cells #[.int .i64 pk, .int .u64 pn, .string pt, .slice pa1 pn1 pc1, .string pr, .slice pa2 pn2 pc2, .slice pa3 pn3 pc3, .int .i64 xk, .int .u64 xn, .string xt, .slice xa1 xn1 xc1, .string xr, .slice xa2 xn2 xc2, .slice xa3 xn3 xc3] 97)).alloc (.cells #[.int .i64 qk, .int .u64 qn, .string qt, .slice qa1 qn1 qc1, .string qr, .slice qa2 qn2 qc2, .slice qa3 qn3 qc3, .int .i64 yk, .int .u64 yn, .string yt, .slice ya1 yn1 yc1, .string yr, .slice ya2 yn2 yc2, .slice ya3 yn3 yc3] 97)) (fun w' => ((w'.cell? ⟨w.heap.size, 0, none⟩ = some (.int .i64 pk) ∧ w'.cell? ⟨w.heap.size, 1, none⟩ = some (.int .u64 pn) ∧ w'.cell? ⟨w.heap.size, 2, none⟩ = some (.string pt) ∧ w'.cell? ⟨w.heap.size, 3, none⟩ = some (.slice pa1 pn1 pc1) ∧ w'.cell? ⟨w.heap.size, 4, none⟩ = some (.string pr) ∧ w'.cell? ⟨w.heap.size, 5, none⟩ = some (.slice pa2 pn2 pc2) ∧ w'.cell? ⟨w.heap.size, 6, none⟩ = some (.slice pa3 pn3 pc3) ∧ w'.cell? ⟨w.heap.size, 7, none⟩ = some (.int .i64 xk) ∧ w'.cell? ⟨w.heap.size, 8, none⟩ = some (.int .u64 xn) ∧ w'.cell? ⟨w.heap.size, 9, none⟩ = some (.string xt) ∧ w'.cell? ⟨w.heap.size, 10, none⟩ = some (.slice xa1 xn1 xc1) ∧ w'.cell? ⟨w.heap.size, 11, none⟩ = some (.string xr) ∧ w'.cell? ⟨w.heap.size, 12, none⟩ = some (.slice xa2 xn2 xc2) ∧ w'.cell? ⟨w.heap.size, 13, none⟩ = some (.slice xa3 xn3 xc3)) ∧ (w'.cell? ⟨w.heap.size + 1, 0, none⟩ = some (.int .i64 qk) ∧ w'.cell? ⟨w.heap.size + 1, 1, none⟩ = some (.int .u64 qn) ∧ w'.cell? ⟨w.heap.size + 1, 2, none⟩ = some (.string qt) ∧ w'.cell? ⟨w.heap.size + 1, 3, none⟩ = some (.slice qa1 qn1 qc1) ∧ w'.cell? ⟨w.heap.size + 1, 4, none⟩ = some (.string qr) ∧ w'.cell? ⟨w.heap.size + 1, 5, none⟩ = some (.slice qa2 qn2 qc2) ∧ w'.cell? ⟨w.heap.size + 1, 6, none⟩ = some (.slice qa3 qn3 qc3) ∧ w'.cell? ⟨w.heap.size + 1, 7, none⟩ = some (.int .i64 yk) ∧ w'.cell? ⟨w.heap.size + 1, 8, none⟩ = some (.int .u64 yn) ∧ w'.cell? ⟨w.heap.size + 1, 9, none⟩ = some (.string yt) ∧ w'.cell? ⟨w.heap.size + 1, 10, none⟩ = some (.slice ya1 yn1 yc1) ∧ w'.cell? ⟨w.heap.size + 1, 11, none⟩ = some (.string yr) ∧ w'.cell? ⟨w.heap.size + 1, 12, none⟩ = some (.slice ya2 yn2 yc2) ∧ w'.cell? ⟨w.heap.size + 1, 13, none⟩ = some (.slice ya3 yn3 yc3)))) := by
  refine ⟨by simp, fun w' hb => ⟨⟨?_, ?_, ?_, ?_, ?_, ?_, ?_, ?_, ?_, ?_, ?_, ?_, ?_, ?_⟩, ?_, ?_, ?_, ?_, ?_, ?_, ?_, ?_, ?_, ?_, ?_, ?_, ?_, ?_⟩⟩
  all_goals
   rw [hb.cell (by simp)]
   simp
 have HB : ∀ w', (((w'.cell? ⟨w.heap.size, 0, none⟩ = some (.int .i64 pk) ∧ w'.cell? ⟨w.heap.size, 1, none⟩ = some (.int .u64 pn) ∧ w'.cell? ⟨w.heap.size, 2, none⟩ = some (.string pt) ∧ w'.cell? ⟨w.heap.size, 3, none⟩ = some (.slice pa1 pn1 pc1) ∧ w'.cell? ⟨w.heap.size, 4, none⟩ = some (.string pr) ∧ w'.cell? ⟨w.heap.size, 5, none⟩ = some (.slice pa2 pn2 pc2) ∧ w'.cell? ⟨w.heap.size, 6, none⟩ = some (.slice pa3 pn3 pc3) ∧ w'.cell? ⟨w.heap.size, 7, none⟩ = some (.int .i64 xk) ∧ w'.cell? ⟨w.heap.size, 8, none⟩ = some (.int .u64 xn) ∧ w'.cell? ⟨w.heap.size, 9, none⟩ = some (.string xt) ∧ w'.cell? ⟨w.heap.size, 10, none⟩ = some (.slice xa1 xn1 xc1) ∧ w'.cell? ⟨w.heap.size, 11, none⟩ = some (.string xr) ∧ w'.cell? ⟨w.heap.size, 12, none⟩ = some (.slice xa2 xn2 xc2) ∧ w'.cell? ⟨w.heap.size, 13, none⟩ = some (.slice xa3 xn3 xc3)) ∧ (w'.cell? ⟨w.heap.size + 1, 0, none⟩ = some (.int .i64 qk) ∧ w'.cell? ⟨w.heap.size + 1, 1, none⟩ = some (.int .u64 qn) ∧ w'.cell? ⟨w.heap.size + 1, 2, none⟩ = some (.string qt) ∧ w'.cell? ⟨w.heap.size + 1, 3, none⟩ = some (.slice qa1 qn1 qc1) ∧ w'.cell? ⟨w.heap.size + 1, 4, none⟩ = some (.string qr) ∧ w'.cell? ⟨w.heap.size + 1, 5, none⟩ = some (.slice qa2 qn2 qc2) ∧ w'.cell? ⟨w.heap.size + 1, 6, none⟩ = some (.slice qa3 qn3 qc3) ∧ w'.cell? ⟨w.heap.size + 1, 7, none⟩ = some (.int .i64 yk) ∧ w'.cell? ⟨w.heap.size + 1, 8, none⟩ = some (.int .u64 yn) ∧ w'.cell? ⟨w.heap.size + 1, 9, none⟩ = some (.string yt) ∧ w'.cell? ⟨w.heap.size + 1, 10, none⟩ = some (.slice ya1 yn1 yc1) ∧ w'.cell? ⟨w.heap.size + 1, 11, none⟩ = some (.string yr) ∧ w'.cell? ⟨w.heap.size + 1, 12, none⟩ = some (.slice ya2 yn2 yc2) ∧ w'.cell? ⟨w.heap.size + 1, 13, none⟩ = some (.slice ya3 yn3 yc3))) ∧ Below (w.heap.size + 2) ((w.alloc (.cells #[.int .i64 pk, .int .u64 pn, .string pt, .slice pa1 pn1 pc1, .string pr, .slice pa2 pn2 pc2, .slice pa3 pn3 pc3, .int .i64 xk, .int .u64 xn, .string xt, .slice xa1 xn1 xc1, .string xr, .slice xa2 xn2 xc2, .slice xa3 xn3 xc3] 97)).alloc (.cells #[.int .i64 qk, .int .u64 qn, .string qt, .slice qa1 qn1 qc1, .string qr, .slice qa2 qn2 qc2, .slice qa3 qn3 qc3, .int .i64 yk, .int .u64 yn, .string yt, .slice ya1 yn1 yc1, .string yr, .slice ya2 yn2 yc2, .slice ya3 yn3 yc3] 97)) w') → Below w.heap.size w w' := fun w' h => (((Below.refl w.heap.size w).alloc (Nat.le_refl _) _).alloc (by simp) _).trans (h.2.mono (by omega))
 have HB := Yq HB; have HK := Yq HK
 go_region_held3 (fun w' => ((w'.cell? ⟨w.heap.size, 0, none⟩ = some (.int .i64 pk) ∧ w'.cell? ⟨w.heap.size, 1, none⟩ = some (.int .u64 pn) ∧ w'.cell? ⟨w.heap.size, 2, none⟩ = some (.string pt) ∧ w'.cell? ⟨w.heap.size, 3, none⟩ = some (.slice pa1 pn1 pc1) ∧ w'.cell? ⟨w.heap.size, 4, none⟩ = some (.string pr) ∧ w'.cell? ⟨w.heap.size, 5, none⟩ = some (.slice pa2 pn2 pc2) ∧ w'.cell? ⟨w.heap.size, 6, none⟩ = some (.slice pa3 pn3 pc3) ∧ w'.cell? ⟨w.heap.size, 7, none⟩ = some (.int .i64 xk) ∧ w'.cell? ⟨w.heap.size, 8, none⟩ = some (.int .u64 xn) ∧ w'.cell? ⟨w.heap.size, 9, none⟩ = some (.string xt) ∧ w'.cell? ⟨w.heap.size, 10, none⟩ = some (.slice xa1 xn1 xc1) ∧ w'.cell? ⟨w.heap.size, 11, none⟩ = some (.string xr) ∧ w'.cell? ⟨w.heap.size, 12, none⟩ = some (.slice xa2 xn2 xc2) ∧ w'.cell? ⟨w.heap.size, 13, none⟩ = some (.slice xa3 xn3 xc3)) ∧ (w'.cell? ⟨w.heap.size + 1, 0, none⟩ = some (.int .i64 qk) ∧ w'.cell? ⟨w.heap.size + 1, 1, none⟩ = some (.int .u64 qn) ∧ w'.cell? ⟨w.heap.size + 1, 2, none⟩ = some (.string qt) ∧ w'.cell? ⟨w.heap.size + 1, 3, none⟩ = some (.slice qa1 qn1 qc1) ∧ w'.cell? ⟨w.heap.size + 1, 4, none⟩ = some (.string qr) ∧ w'.cell? ⟨w.heap.size + 1, 5, none⟩ = some (.slice qa2 qn2 qc2) ∧ w'.cell? ⟨w.heap.size + 1, 6, none⟩ = some (.slice qa3 qn3 qc3) ∧ w'.cell? ⟨w.heap.size + 1, 7, none⟩ = some (.int .i64 yk) ∧ w'.cell? ⟨w.heap.size + 1, 8, none⟩ = some (.int .u64 yn) ∧ w'.cell? ⟨w.heap.size + 1, 9, none⟩ = some (.string yt) ∧ w'.cell? ⟨w.heap.size + 1, 10, none⟩ = some (.slice ya1 yn1 yc1) ∧ w'.cell? ⟨w.heap.size + 1, 11, none⟩ = some (.string yr) ∧ w'.cell? ⟨w.heap.size + 1, 12, none⟩ = some (.slice ya2 yn2 yc2) ∧ w'.cell? ⟨w.heap.size + 1, 13, none⟩ = some (.slice ya3 yn3 yc3))) ∧ Below (w.heap.size + 2) ((w.alloc (.cells #[.int .i64 pk, .int .u64 pn, .string pt, .slice pa1 pn1 pc1, .string pr, .slice pa2 pn2 pc2, .slice pa3 pn3 pc3, .int .i64 xk, .int .u64 xn, .string xt, .slice xa1 xn1 xc1, .string xr, .slice xa2 xn2 xc2, .slice xa3 xn3 xc3] 97)).alloc (.cells #[.int .i64 qk, .int .u64 qn, .string qt, .slice qa1 qn1 qc1, .string qr, .slice qa2 qn2 qc2, .slice qa3 qn3 qc3, .int .i64 yk, .int .u64 yn, .string yt, .slice ya1 yn1 yc1, .string yr, .slice ya2 yn2 yc2, .slice ya3 yn3 yc3] 97)) w')
  (first | assumption | exact HK.out.start | exact HK.out.call (by assumption) (by assumption) | exact HK.out.alloc (by assumption) _)
  (first
  | (go_at_call 34; first | (with_reducible refine (HI.out _ (HB.out _ (by assumption))).mono ?_; rintro e w2 ⟨rfl, hb2⟩) | (with_reducible refine (HJ.out _ (HB.out _ (by assumption))).mono ?_; rintro e w3 ⟨rfl, hb3⟩))
  | (go_at_call 55; refine (or_made _ _ _).mono ?_; rintro e w' ⟨rfl, rfl⟩))
 all_goals
  go_wp2_with fail
  go_ret
  exact ⟨rfl, HB.out _ (by assumption)⟩
theorem compare_step (N : Nat) (ih : CompareAt N) : CompareAt (N + 1) := by
 intro x y xc yc w hs hx hy
 obtain ⟨xk, xn, xt, xf, xr, xl, xp⟩ := x
 obtain ⟨yk, yn, yt, yf, yr, yl, yp⟩ := y
 have hsF : ∀ e ∈ xf, SizeOf.sizeOf e.2 < N := fun e he => by have := Val.size_field (x := .mk xk xn xt xf xr xl xp) (m := e.1) (v := e.2) he; omega
 have hsL : ∀ e ∈ xl, SizeOf.sizeOf e < N := fun e he => by have := Val.size_list (x := .mk xk xn xt xf xr xl xp) (v := e) he; omega
 have hsP : ∀ e ∈ xp, SizeOf.sizeOf e.1 < N ∧ SizeOf.sizeOf e.2 < N := fun e he => by have := Val.size_pair (x := .mk xk xn xt xf xr xl xp) (k := e.1) (v := e.2) he; omega
 rw [VR] at hx hy
 obtain ⟨xfv, xlv, xpv, xfe, xle, xpe, rfl, _, ⟨hxf, hxl, hxp⟩, hxF, hxL, hxP⟩ := hx
 obtain ⟨yfv, ylv, ypv, yfe, yle, ype, rfl, _, ⟨hyf, hyl, hyp⟩, hyF, hyL, hyP⟩ := hy
 rw [cmp]
 have HF : ∀ wx, Below w.heap.size w wx → Calls Tryz.prog 56 #[xfv, yfv, .func (.func 57) #[] #[]] wx fun e w' => e = .returned (.int .i64 (cmpF xf yf)) ∧ Below wx.heap.size wx w' := by
  intro wx hb
  rw [Val.cmpF_lex]
  have := comparefunc_fld xfe yfe (fun i => orr (ocmp (xf.getD i (0, Val.v0)).1 (yf.getD i (0, Val.v0)).1) (cmp (xf.getD i (0, Val.v0)).2 (yf.getD i (0, Val.v0)).2)) xfv yfv 57 wx (hxf.mono (below_le hb)) (hyf.mono (below_le hb)) hxF.shapes hyF.shapes (enters_of Tryz.func57 (by kernel_rfl) rfl) ?_
  ·rw [hxF.len, hyF.len] at this; exact this
  ·intro i h1 h2 wy hb2
   have h1' : i < xf.length := by rw [← hxF.len]; exact h1
   have h2' : i < yf.length := by rw [← hyF.len]; exact h2
   obtain ⟨xc, e1, r1⟩ := hxF.at h1' h1
   obtain ⟨yc, e2, r2⟩ := hyF.at h2' h2
   have hle := (below_le hb).trans (below_le hb2)
   rw [e1, e2]
   simp only [List.getD_eq_getElem?_getD, List.getElem?_eq_getElem h1', List.getElem?_eq_getElem h2', Option.getD_some]
   exact order_fld N ih _ _ _ _ xc yc wy (hsF _ (List.getElem_mem _)) (r1.mono hle) (r2.mono hle)
 have HL : ∀ wx, Below w.heap.size w wx → Calls Tryz.prog 58 #[xlv, ylv, .func (.func 34) #[] #[]] wx fun e w' => e = .returned (.int .i64 (cmpL xl yl)) ∧ Below wx.heap.size wx w' := by
  intro wx hb
  rw [Val.cmpL_lex]
  have := comparefunc_val xle yle (fun i => cmp (xl.getD i Val.v0) (yl.getD i Val.v0)) xlv ylv 34 wx (hxl.mono (below_le hb)) (hyl.mono (below_le hb)) hxL.shapes hyL.shapes (enters_of Tryz.func34 (by kernel_rfl) rfl) ?_
  ·rw [hxL.len, hyL.len] at this; exact this
  ·intro i h1 h2 wy hb2
   have h1' : i < xl.length := by rw [← hxL.len]; exact h1
   have h2' : i < yl.length := by rw [← hyL.len]; exact h2
   have hle := (below_le hb).trans (below_le hb2)
   simp only [List.getD_eq_getElem?_getD, List.getElem?_eq_getElem h1', List.getElem?_eq_getElem h2', Option.getD_some]
   exact ih _ _ _ _ wy (hsL _ (List.getElem_mem _)) ((hxL.at h1' h1).mono hle) ((hyL.at h2' h2).mono hle)
 have HP : ∀ wx, Below w.heap.size w wx → Calls Tryz.prog 59 #[xpv, ypv, .func (.func 60) #[] #[]] wx fun e w' => e = .returned (.int .i64 (cmpP xp yp)) ∧ Below wx.heap.size wx w' := by
  intro wx hb
  rw [Val.cmpP_lex]
  have := comparefunc_par xpe ype (fun i => orr (cmp (xp.getD i (Val.v0, Val.v0)).1 (yp.getD i (Val.v0, Val.v0)).1) (cmp (xp.getD i (Val.v0, Val.v0)).2 (yp.getD i (Val.v0, Val.v0)).2)) xpv ypv 60 wx (hxp.mono (below_le hb)) (hyp.mono (below_le hb)) hxP.shapes hyP.shapes (enters_of Tryz.func60 (by kernel_rfl) rfl) ?_
  ·rw [hxP.len, hyP.len] at this; exact this
  ·intro i h1 h2 wy hb2
   have h1' : i < xp.length := by rw [← hxP.len]; exact h1
   have h2' : i < yp.length := by rw [← hyP.len]; exact h2
   obtain ⟨kc, xc, e1, q1, r1⟩ := hxP.at h1' h1
   obtain ⟨lc, yc, e2, q2, r2⟩ := hyP.at h2' h2
   have hle := (below_le hb).trans (below_le hb2)
   rw [e1, e2]
   simp only [List.getD_eq_getElem?_getD, List.getElem?_eq_getElem h1', List.getElem?_eq_getElem h2', Option.getD_some]
   exact order_par N ih _ _ _ _ kc lc xc yc wy (hsP _ (List.getElem_mem _)).1 (hsP _ (List.getElem_mem _)).2 (q1.mono hle) (q2.mono hle) (r1.mono hle) (r2.mono hle)
 obtain ⟨xa1, xc1, rfl, _⟩ := hxf.len
 obtain ⟨xa2, xc2, rfl, _⟩ := hxl.len
 obtain ⟨xa3, xc3, rfl, _⟩ := hxp.len
 obtain ⟨ya1, yc1, rfl, _⟩ := hyf.len
 obtain ⟨ya2, yc2, rfl, _⟩ := hyl.len
 obtain ⟨ya3, yc3, rfl, _⟩ := hyp.len
 have HF := Yq HF; have HL := Yq HL; have HP := Yq HP
 clear hxf hxl hxp hyf hyl hyp hxF hxL hxP hyF hyL hyP hsF hsL hsP ih
 generalize xfe.length = xn1 at *
 generalize xle.length = xn2 at *
 generalize xpe.length = xn3 at *
 generalize yfe.length = yn1 at *
 generalize yle.length = yn2 at *
 generalize ype.length = yn3 at *
 have hb0 : Below w.heap.size w ((w.alloc (.cells #[.int .i64 xk, .int .u64 xn, .string xt, .slice xa1 xn1 xc1, .string xr, .slice xa2 xn2 xc2, .slice xa3 xn3 xc3] 27)).alloc (.cells #[.int .i64 yk, .int .u64 yn, .string yt, .slice ya1 yn1 yc1, .string yr, .slice ya2 yn2 yc2, .slice ya3 yn3 yc3] 27)) := ((Below.refl _ _).alloc (Nat.le_refl _) _).alloc (by simp) _
 by_cases hk : xk = yk
 ·subst hk
  rw [if_pos rfl]
  by_cases h1 : xk = 1
  ·subst h1
   rw [if_pos rfl]
   go_enter Tryz.func34, Tryz.ntmps34
   go_wp2_with (go_at_call 53; refine (cmp_u64 _ _ _).mono ?_; rintro e w' ⟨rfl, rfl⟩)
   go_ret
   exact ⟨rfl, hb0⟩
  ·by_cases h2 : xk = 2
   ·subst h2
    rw [if_neg (by omega), if_pos rfl]
    go_enter Tryz.func34, Tryz.ntmps34
    go_wp2_with (go_at_call 54; refine (cmp_str _ _ _).mono ?_; rintro e w' ⟨rfl, rfl⟩)
    go_ret
    exact ⟨rfl, hb0⟩
   ·by_cases h3 : xk = 3
    ·subst h3
     rw [if_neg (by omega), if_neg (by omega), if_pos rfl]
     have Hb0 := Yq hb0; clear hb0
     go_enter Tryz.func34, Tryz.ntmps34
     go_wp2_with fail
     have HK : Held (w.heap.size + 2) ((w.alloc (.cells #[.int .i64 3, .int .u64 xn, .string xt, .slice xa1 xn1 xc1, .string xr, .slice xa2 xn2 xc2, .slice xa3 xn3 xc3] 27)).alloc (.cells #[.int .i64 3, .int .u64 yn, .string yt, .slice ya1 yn1 yc1, .string yr, .slice ya2 yn2 yc2, .slice ya3 yn3 yc3] 27)) (fun w' => ((w'.cell? ⟨w.heap.size, 0, none⟩ = some (.int .i64 3) ∧ w'.cell? ⟨w.heap.size, 1, none⟩ = some (.int .u64 xn) ∧ w'.cell? ⟨w.heap.size, 2, none⟩ = some (.string xt) ∧ w'.cell? ⟨w.heap.size, 3, none⟩ = some (.slice xa1 xn1 xc1) ∧ w'.cell? ⟨w.heap.size, 4, none⟩ = some (.string xr) ∧ w'.cell? ⟨w.heap.size, 5, none⟩ = some (.slice xa2 xn2 xc2) ∧ w'.cell? ⟨w.heap.size, 6, none⟩ = some (.slice xa3 xn3 xc3)) ∧ (w'.cell? ⟨w.heap.size + 1, 0, none⟩ = some (.int .i64 3) ∧ w'.cell? ⟨w.heap.size + 1, 1, none⟩ = some (.int .u64 yn) ∧ w'.cell? ⟨w.heap.size + 1, 2, none⟩ = some (.string yt) ∧ w'.cell? ⟨w.heap.size + 1, 3, none⟩ = some (.slice ya1 yn1 yc1) ∧ w'.cell? ⟨w.heap.size + 1, 4, none⟩ = some (.string yr) ∧ w'.cell? ⟨w.heap.size + 1, 5, none⟩ = some (.slice ya2 yn2 yc2) ∧ w'.cell? ⟨w.heap.size + 1, 6, none⟩ = some (.slice ya3 yn3 yc3)))) := by
      refine ⟨by simp, fun w' hb => ⟨⟨?_, ?_, ?_, ?_, ?_, ?_, ?_⟩, ?_, ?_, ?_, ?_, ?_, ?_, ?_⟩⟩
      all_goals
       rw [hb.cell (by simp)]
       simp
     have HB : ∀ w', (((w'.cell? ⟨w.heap.size, 0, none⟩ = some (.int .i64 3) ∧ w'.cell? ⟨w.heap.size, 1, none⟩ = some (.int .u64 xn) ∧ w'.cell? ⟨w.heap.size, 2, none⟩ = some (.string xt) ∧ w'.cell? ⟨w.heap.size, 3, none⟩ = some (.slice xa1 xn1 xc1) ∧ w'.cell? ⟨w.heap.size, 4, none⟩ = some (.string xr) ∧ w'.cell? ⟨w.heap.size, 5, none⟩ = some (.slice xa2 xn2 xc2) ∧ w'.cell? ⟨w.heap.size, 6, none⟩ = some (.slice xa3 xn3 xc3)) ∧ (w'.cell? ⟨w.heap.size + 1, 0, none⟩ = some (.int .i64 3) ∧ w'.cell? ⟨w.heap.size + 1, 1, none⟩ = some (.int .u64 yn) ∧ w'.cell? ⟨w.heap.size + 1, 2, none⟩ = some (.string yt) ∧ w'.cell? ⟨w.heap.size + 1, 3, none⟩ = some (.slice ya1 yn1 yc1) ∧ w'.cell? ⟨w.heap.size + 1, 4, none⟩ = some (.string yr) ∧ w'.cell? ⟨w.heap.size + 1, 5, none⟩ = some (.slice ya2 yn2 yc2) ∧ w'.cell? ⟨w.heap.size + 1, 6, none⟩ = some (.slice ya3 yn3 yc3))) ∧ Below (w.heap.size + 2) ((w.alloc (.cells #[.int .i64 3, .int .u64 xn, .string xt, .slice xa1 xn1 xc1, .string xr, .slice xa2 xn2 xc2, .slice xa3 xn3 xc3] 27)).alloc (.cells #[.int .i64 3, .int .u64 yn, .string yt, .slice ya1 yn1 yc1, .string yr, .slice ya2 yn2 yc2, .slice ya3 yn3 yc3] 27)) w') → Below w.heap.size w w' := fun w' h => (((Below.refl w.heap.size w).alloc (Nat.le_refl _) _).alloc (by simp) _).trans (h.2.mono (by omega))
     have HB := Yq HB; have HK := Yq HK
     go_region_held3 (fun w' => ((w'.cell? ⟨w.heap.size, 0, none⟩ = some (.int .i64 3) ∧ w'.cell? ⟨w.heap.size, 1, none⟩ = some (.int .u64 xn) ∧ w'.cell? ⟨w.heap.size, 2, none⟩ = some (.string xt) ∧ w'.cell? ⟨w.heap.size, 3, none⟩ = some (.slice xa1 xn1 xc1) ∧ w'.cell? ⟨w.heap.size, 4, none⟩ = some (.string xr) ∧ w'.cell? ⟨w.heap.size, 5, none⟩ = some (.slice xa2 xn2 xc2) ∧ w'.cell? ⟨w.heap.size, 6, none⟩ = some (.slice xa3 xn3 xc3)) ∧ (w'.cell? ⟨w.heap.size + 1, 0, none⟩ = some (.int .i64 3) ∧ w'.cell? ⟨w.heap.size + 1, 1, none⟩ = some (.int .u64 yn) ∧ w'.cell? ⟨w.heap.size + 1, 2, none⟩ = some (.string yt) ∧ w'.cell? ⟨w.heap.size + 1, 3, none⟩ = some (.slice ya1 yn1 yc1) ∧ w'.cell? ⟨w.heap.size + 1, 4, none⟩ = some (.string yr) ∧ w'.cell? ⟨w.heap.size + 1, 5, none⟩ = some (.slice ya2 yn2 yc2) ∧ w'.cell? ⟨w.heap.size + 1, 6, none⟩ = some (.slice ya3 yn3 yc3))) ∧ Below (w.heap.size + 2) ((w.alloc (.cells #[.int .i64 3, .int .u64 xn, .string xt, .slice xa1 xn1 xc1, .string xr, .slice xa2 xn2 xc2, .slice xa3 xn3 xc3] 27)).alloc (.cells #[.int .i64 3, .int .u64 yn, .string yt, .slice ya1 yn1 yc1, .string yr, .slice ya2 yn2 yc2, .slice ya3 yn3 yc3] 27)) w')
      (first | assumption | exact HK.out.start | exact HK.out.call (by assumption) (by assumption) | exact HK.out.alloc (by assumption) _)
      (first
      | (go_at_call 56; refine (HF.out _ (HB.out _ (by assumption))).mono ?_; rintro e w2 ⟨rfl, hb2⟩)
      | (go_at_call 54; refine (cmp_str _ _ _).mono ?_; rintro e w' ⟨rfl, rfl⟩)
      | (go_at_call 55; refine (or_made _ _ _).mono ?_; rintro e w' ⟨rfl, rfl⟩))
     all_goals
      go_wp2_with fail
      go_ret
      exact ⟨rfl, HB.out _ (by assumption)⟩
    ·by_cases h4 : xk = 4
     ·subst h4
      rw [if_neg (by omega), if_neg (by omega), if_neg (by omega), if_pos rfl]
      have Hb0 := Yq hb0; clear hb0
      go_enter Tryz.func34, Tryz.ntmps34
      go_wp2_with fail
      refine (HL.out _ Hb0.out).mono ?_
      rintro e w' ⟨rfl, hb⟩
      go_wp2_with fail
      go_ret
      exact ⟨rfl, Hb0.out.trans (hb.mono Hb0.out.size)⟩
     ·by_cases h5 : xk = 5
      ·subst h5
       rw [if_neg (by omega), if_neg (by omega), if_neg (by omega), if_neg (by omega), if_pos rfl]
       have Hb0 := Yq hb0; clear hb0
       go_enter Tryz.func34, Tryz.ntmps34
       go_wp2_with fail
       refine (HP.out _ Hb0.out).mono ?_
       rintro e w' ⟨rfl, hb⟩
       go_wp2_with fail
       go_ret
       exact ⟨rfl, Hb0.out.trans (hb.mono Hb0.out.size)⟩
      ·rw [if_neg h1, if_neg h2, if_neg h3, if_neg h4, if_neg h5]
       have e1 : (xk == 1) = false := by simpa using h1
       have e2 : (xk == 2) = false := by simpa using h2
       have e3 : (xk == 3) = false := by simpa using h3
       have e4 : (xk == 4) = false := by simpa using h4
       have e5 : (xk == 5) = false := by simpa using h5
       clear h1 h2 h3 h4 h5
       go_enter Tryz.func34, Tryz.ntmps34
       go_wp2_with fail
       go_ret
       exact ⟨rfl, hb0⟩
 ·rw [if_neg hk]
  have hk' : (xk != yk) = true := by simpa using hk
  clear hk
  go_enter Tryz.func34, Tryz.ntmps34
  go_wp2_with (go_at_call 52; refine (cmp_int _ _ _).mono ?_; rintro e w' ⟨rfl, rfl⟩)
  go_ret
  exact ⟨rfl, hb0⟩
theorem compare_at : ∀ N, CompareAt N
 | 0 => fun x y xc yc w h => by omega
 | N + 1 => compare_step N (compare_at N)
theorem compare_any (x y : V) (xc yc : List Value) (w : World) (hx : VR (frag w) x xc) (hy : VR (frag w) y yc) :
  Calls Tryz.prog 34 #[.agg xc.toArray, .agg yc.toArray] w fun e w' => e = .returned (.int .i64 (cmp x y)) ∧ Below w.heap.size w w' :=
 compare_at _ x y xc yc w (Nat.lt_succ_self _) hx hy
open Val (V cmp firstGe)
theorem binsearch_fld (es : List (List Value)) (tg : Int) (c : Nat → Int) (v : Value) (g : Nat) (w : World) (hv : FlatC 8 (frag w) v es) (hse : ∀ e ∈ es, Fld8 e)
  (hg : ∀ args wx, (callFunc g args).run Tryz.prog wx = .ok (.enter g args) wx)
  (hmono : ∀ i j, i ≤ j → j < es.length → c j < 0 → c i < 0) (hbig : es.length < 4611686018427387904)
  (hc : ∀ (i : Nat) (h1 : i < es.length) (wx : World), Below w.heap.size w wx → Calls Tryz.prog g #[.agg es[i].toArray, .int .i64 tg] wx fun e w' => e = .returned (.int .i64 (c i)) ∧ Below wx.heap.size wx w') :
  Calls Tryz.prog 116 #[v, .int .i64 tg, .func (.func g) #[] #[]] w fun e w' =>
   e = .returned (.tuple #[.int .i64 (firstGe c es.length : Nat), .bool (decide (firstGe c es.length < es.length) && decide (c (firstGe c es.length) = 0))]) ∧ Below w.heap.size w w' := by
 obtain ⟨a, cap, rfl, hc1, hc2, _⟩ := hv.len
 have HX := Yq hv; have HC := Yq hc; have HSE := Yq hse; have M := Yq hmono
 unfold maxLen at hc2
 clear hv hc hse hmono
 obtain ⟨n, hn⟩ : ∃ n, n = es.length := ⟨_, rfl⟩
 rw [← hn] at HX hc1 M hbig ⊢
 have Hn := Yq hn.symm; clear hn
 obtain ⟨pos, hpos⟩ : ∃ pos, pos = firstGe c n := ⟨_, rfl⟩
 obtain ⟨fin, hfin⟩ : ∃ fin, fin = (decide (pos < n) && decide (c pos = 0)) := ⟨_, rfl⟩
 rw [← hpos, ← hfin]
 have Hpos := Yq hpos; have Hfin := Yq hfin
 clear hpos hfin
 go_enter Tryz.func116, Tryz.ntmps116
 go_wp2_with fail
 go_loopg [9, 10] n (fun kx s9 s10 wr => ∃ lo hi : Nat, s9 = .int .i64 lo ∧ s10 = .int .i64 hi ∧ lo ≤ hi ∧ hi ≤ n ∧ hi - lo ≤ kx ∧ Below w.heap.size w wr ∧
  Hid ((∀ t, t < lo → c t < 0) ∧ (∀ t, hi ≤ t → t < n → 0 ≤ c t)))
 case atStart => exact ⟨0, n, rfl, rfl, Nat.zero_le _, Nat.le_refl _, by omega, (Below.refl _ _), (⟨fun t ht => absurd ht (Nat.not_lt_zero _), fun t h1 h2 => by omega⟩ : (∀ t, t < 0 → c t < 0) ∧ (∀ t, n ≤ t → t < n → 0 ≤ c t))⟩
 case round =>
  obtain ⟨lo, hi, rfl, rfl, hlh, hin, hg', hbel, Inv⟩ := hrel
  by_cases hlt : lo < hi
  ·have hks : (lo + hi) / 2 < es.length := by rw [Hn.out]; omega
   obtain ⟨b0, o0, hb0, hidx, hcell⟩ := FlatC.at (n := n) (cap := cap) (a := a) HX.out (by decide) (i := (lo + hi) / 2) hks Tryz.underlying23 sizeFld
   obtain ⟨xm, _, ⟨xk, xn, xt, xr, xa1, xn1, xc1, xa2, xn2, xc2, xa3, xn3, xc3, rfl⟩, hx⟩ := HSE.out es[(lo + hi) / 2] (List.getElem_mem _)
   rw [hx] at hcell
   have c0 := (hbel.cell (p := ⟨b0, o0 + 0, none⟩) hb0).trans (hcell 0 _ rfl)
   have c1 := (hbel.cell (p := ⟨b0, o0 + 1, none⟩) hb0).trans (hcell 1 _ rfl)
   have c2 := (hbel.cell (p := ⟨b0, o0 + 2, none⟩) hb0).trans (hcell 2 _ rfl)
   have c3 := (hbel.cell (p := ⟨b0, o0 + 3, none⟩) hb0).trans (hcell 3 _ rfl)
   have c4 := (hbel.cell (p := ⟨b0, o0 + 4, none⟩) hb0).trans (hcell 4 _ rfl)
   have c5 := (hbel.cell (p := ⟨b0, o0 + 5, none⟩) hb0).trans (hcell 5 _ rfl)
   have c6 := (hbel.cell (p := ⟨b0, o0 + 6, none⟩) hb0).trans (hcell 6 _ rfl)
   have c7 := (hbel.cell (p := ⟨b0, o0 + 7, none⟩) hb0).trans (hcell 7 _ rfl)
   rw [Nat.add_zero] at c0
   have hcall := fun wx hb => HC.out ((lo + hi) / 2) hks wx hb
   rw [hx] at hcall
   have Hcall := Yq hcall
   clear hcell hx hcall
   rw [show ((((lo + hi) / 2 : Nat)) : Int) = ((lo : Int) + (hi : Int)) / 2 by omega] at hidx
   by_cases hyx : c ((lo + hi) / 2) < 0
   ·have gy : decide (c ((lo + hi) / 2) < 0) = true := decide_eq_true hyx
    have I2 : Hid ((∀ t, t < (lo + hi) / 2 + 1 → c t < 0) ∧ (∀ t, hi ≤ t → t < n → 0 ≤ c t)) := ⟨fun t ht => M.out t ((lo + hi) / 2) (by omega) (by omega) hyx, Inv.out.2⟩
    generalize c ((lo + hi) / 2) = cm at *
    go_wp2_with fail
    go_at_fn g
    refine (Hcall.out _ hbel).mono ?_
    rintro e w3 ⟨rfl, hb3⟩
    go_wp2_with fail
    go_roundg (hi - ((lo + hi) / 2 + 1))
    case measure => omega
    case rel => exact ⟨(lo + hi) / 2 + 1, hi, by rw [show ((lo : Int) + (hi : Int)) / 2 + 1 = (((lo + hi) / 2 + 1 : Nat) : Int) by omega], rfl, by omega, hin, Nat.le_refl _, (hbel.trans (hb3.mono hbel.size)), I2⟩
   ·have gy : decide (c ((lo + hi) / 2) < 0) = false := decide_eq_false hyx
    have I2 : Hid ((∀ t, t < lo → c t < 0) ∧ (∀ t, (lo + hi) / 2 ≤ t → t < n → 0 ≤ c t)) := ⟨Inv.out.1, fun t ht htn => Int.not_lt.1 fun h => hyx (M.out ((lo + hi) / 2) t ht htn h)⟩
    generalize c ((lo + hi) / 2) = cm at *
    go_wp2_with fail
    go_at_fn g
    refine (Hcall.out _ hbel).mono ?_
    rintro e w3 ⟨rfl, hb3⟩
    go_wp2_with fail
    go_roundg ((lo + hi) / 2 - lo)
    case measure => omega
    case rel => exact ⟨lo, (lo + hi) / 2, rfl, by rw [show ((lo : Int) + (hi : Int)) / 2 = (((lo + hi) / 2 : Nat) : Int) by omega], by omega, by omega, Nat.le_refl _, (hbel.trans (hb3.mono hbel.size)), I2⟩
  ·obtain rfl : hi = lo := by omega
   have epos : pos = hi := by rw [Hpos.out]; exact Val.firstGe_of c n hi hin Inv.out.1 (fun h => Inv.out.2 hi (Nat.le_refl _) h)
   subst epos
   by_cases hlt2 : pos < n
   ·have hks : pos < es.length := by rw [Hn.out]; omega
    obtain ⟨b0, o0, hb0, hidx, hcell⟩ := FlatC.at (n := n) (cap := cap) (a := a) HX.out (by decide) (i := pos) hks Tryz.underlying23 sizeFld
    obtain ⟨xm, _, ⟨xk, xn, xt, xr, xa1, xn1, xc1, xa2, xn2, xc2, xa3, xn3, xc3, rfl⟩, hx⟩ := HSE.out es[pos] (List.getElem_mem _)
    rw [hx] at hcell
    have c0 := (hbel.cell (p := ⟨b0, o0 + 0, none⟩) hb0).trans (hcell 0 _ rfl)
    have c1 := (hbel.cell (p := ⟨b0, o0 + 1, none⟩) hb0).trans (hcell 1 _ rfl)
    have c2 := (hbel.cell (p := ⟨b0, o0 + 2, none⟩) hb0).trans (hcell 2 _ rfl)
    have c3 := (hbel.cell (p := ⟨b0, o0 + 3, none⟩) hb0).trans (hcell 3 _ rfl)
    have c4 := (hbel.cell (p := ⟨b0, o0 + 4, none⟩) hb0).trans (hcell 4 _ rfl)
    have c5 := (hbel.cell (p := ⟨b0, o0 + 5, none⟩) hb0).trans (hcell 5 _ rfl)
    have c6 := (hbel.cell (p := ⟨b0, o0 + 6, none⟩) hb0).trans (hcell 6 _ rfl)
    have c7 := (hbel.cell (p := ⟨b0, o0 + 7, none⟩) hb0).trans (hcell 7 _ rfl)
    rw [Nat.add_zero] at c0
    have hcall := fun wx hb => HC.out (pos) hks wx hb
    rw [hx] at hcall
    have Hcall := Yq hcall
    clear hcell hx hcall
    by_cases hyx : c pos = 0
    ·have gy : (c pos == 0) = true := by simpa using hyx
     have Hyx := Yq hyx
     clear hyx
     generalize c pos = cm at *
     go_wp2_with fail
     go_at_fn g
     refine (Hcall.out _ hbel).mono ?_
     rintro e w3 ⟨rfl, hb3⟩
     go_wp2_with fail
     go_ret2
     exact ⟨by rw [Hfin.out, Hyx.out]; simp [hlt2], (hbel.trans (hb3.mono hbel.size))⟩
    ·have gy : (c pos == 0) = false := by simpa using hyx
     have Hyx := Yq hyx
     clear hyx
     generalize c pos = cm at *
     go_wp2_with fail
     go_at_fn g
     refine (Hcall.out _ hbel).mono ?_
     rintro e w3 ⟨rfl, hb3⟩
     go_wp2_with fail
     go_ret2
     exact ⟨by rw [Hfin.out]; simp [hlt2, Hyx.out], (hbel.trans (hb3.mono hbel.size))⟩
   ·have gn : decide (pos < n) = false := decide_eq_false hlt2
    go_wp2_with fail
    go_ret2
    exact ⟨by rw [Hfin.out]; simp [hlt2], hbel⟩
theorem binsearch_par (es : List (List Value)) (tk tn : Int) (tt tr : ByteArray) (ta1 : Option Addr) (tn1 tc1 : Nat) (ta2 : Option Addr) (tn2 tc2 : Nat) (ta3 : Option Addr) (tn3 tc3 : Nat) (c : Nat → Int) (v : Value) (g : Nat) (w : World) (hv : FlatC 14 (frag w) v es) (hse : ∀ e ∈ es, Par14 e)
  (hg : ∀ args wx, (callFunc g args).run Tryz.prog wx = .ok (.enter g args) wx)
  (hmono : ∀ i j, i ≤ j → j < es.length → c j < 0 → c i < 0) (hbig : es.length < 4611686018427387904)
  (hc : ∀ (i : Nat) (h1 : i < es.length) (wx : World), Below w.heap.size w wx → Calls Tryz.prog g #[.agg es[i].toArray, .agg #[.int .i64 tk, .int .u64 tn, .string tt, .slice ta1 tn1 tc1, .string tr, .slice ta2 tn2 tc2, .slice ta3 tn3 tc3]] wx fun e w' => e = .returned (.int .i64 (c i)) ∧ Below wx.heap.size wx w') :
  Calls Tryz.prog 120 #[v, .agg #[.int .i64 tk, .int .u64 tn, .string tt, .slice ta1 tn1 tc1, .string tr, .slice ta2 tn2 tc2, .slice ta3 tn3 tc3], .func (.func g) #[] #[]] w fun e w' =>
   e = .returned (.tuple #[.int .i64 (firstGe c es.length : Nat), .bool (decide (firstGe c es.length < es.length) && decide (c (firstGe c es.length) = 0))]) ∧ Below w.heap.size w w' := by
 obtain ⟨a, cap, rfl, hc1, hc2, _⟩ := hv.len
 have HX := Yq hv; have HC := Yq hc; have HSE := Yq hse; have M := Yq hmono
 unfold maxLen at hc2
 clear hv hc hse hmono
 obtain ⟨n, hn⟩ : ∃ n, n = es.length := ⟨_, rfl⟩
 rw [← hn] at HX hc1 M hbig ⊢
 have Hn := Yq hn.symm; clear hn
 obtain ⟨pos, hpos⟩ : ∃ pos, pos = firstGe c n := ⟨_, rfl⟩
 obtain ⟨fin, hfin⟩ : ∃ fin, fin = (decide (pos < n) && decide (c pos = 0)) := ⟨_, rfl⟩
 rw [← hpos, ← hfin]
 have Hpos := Yq hpos; have Hfin := Yq hfin
 clear hpos hfin
 have hle1 : w.heap.size ≤ (w.alloc (.cells #[.int .i64 tk, .int .u64 tn, .string tt, .slice ta1 tn1 tc1, .string tr, .slice ta2 tn2 tc2, .slice ta3 tn3 tc3] 27)).heap.size := by simp
 have hbt := Yq ((Below.refl w.heap.size w).alloc (Nat.le_refl _) (.cells #[.int .i64 tk, .int .u64 tn, .string tt, .slice ta1 tn1 tc1, .string tr, .slice ta2 tn2 tc2, .slice ta3 tn3 tc3] 27))
 have htc : ∀ w1, Below (w.heap.size + 1) (w.alloc (.cells #[.int .i64 tk, .int .u64 tn, .string tt, .slice ta1 tn1 tc1, .string tr, .slice ta2 tn2 tc2, .slice ta3 tn3 tc3] 27)) w1 → w1.cell? ⟨w.heap.size, 0, none⟩ = some (.int .i64 tk) ∧ w1.cell? ⟨w.heap.size, 1, none⟩ = some (.int .u64 tn) ∧ w1.cell? ⟨w.heap.size, 2, none⟩ = some (.string tt) ∧ w1.cell? ⟨w.heap.size, 3, none⟩ = some (.slice ta1 tn1 tc1) ∧ w1.cell? ⟨w.heap.size, 4, none⟩ = some (.string tr) ∧ w1.cell? ⟨w.heap.size, 5, none⟩ = some (.slice ta2 tn2 tc2) ∧ w1.cell? ⟨w.heap.size, 6, none⟩ = some (.slice ta3 tn3 tc3) := by
  intro w1 hb
  refine ⟨?_, ?_, ?_, ?_, ?_, ?_, ?_⟩
  all_goals
   rw [hb.cell (by simp)]
   simp
 have Htc := Yq htc; clear htc
 go_enter Tryz.func120, Tryz.ntmps120
 go_wp2_with fail
 go_loopg [9, 10] n (fun kx s9 s10 wr => ∃ lo hi : Nat, s9 = .int .i64 lo ∧ s10 = .int .i64 hi ∧ lo ≤ hi ∧ hi ≤ n ∧ hi - lo ≤ kx ∧ Below (w.heap.size + 1) (w.alloc (.cells #[.int .i64 tk, .int .u64 tn, .string tt, .slice ta1 tn1 tc1, .string tr, .slice ta2 tn2 tc2, .slice ta3 tn3 tc3] 27)) wr ∧
  Hid ((∀ t, t < lo → c t < 0) ∧ (∀ t, hi ≤ t → t < n → 0 ≤ c t)))
 case atStart => exact ⟨0, n, rfl, rfl, Nat.zero_le _, Nat.le_refl _, by omega, (Below.refl _ _), (⟨fun t ht => absurd ht (Nat.not_lt_zero _), fun t h1 h2 => by omega⟩ : (∀ t, t < 0 → c t < 0) ∧ (∀ t, n ≤ t → t < n → 0 ≤ c t))⟩
 case round =>
  obtain ⟨lo, hi, rfl, rfl, hlh, hin, hg', hbel1, Inv⟩ := hrel
  have hbel : Below w.heap.size w wr := hbt.out.trans (hbel1.mono (by omega))
  have Hbel1 := Yq hbel1
  obtain ⟨t0, t1, t2, t3, t4, t5, t6⟩ := Htc.out wr hbel1
  clear hbel1
  by_cases hlt : lo < hi
  ·have hks : (lo + hi) / 2 < es.length := by rw [Hn.out]; omega
   obtain ⟨b0, o0, hb0, hidx, hcell⟩ := FlatC.at (n := n) (cap := cap) (a := a) HX.out (by decide) (i := (lo + hi) / 2) hks Tryz.underlying25 sizePar
   obtain ⟨_, _, ⟨xk, xn, xt, xr, xa1, xn1, xc1, xa2, xn2, xc2, xa3, xn3, xc3, rfl⟩, ⟨yk, yn, yt, yr, ya1, yn1, yc1, ya2, yn2, yc2, ya3, yn3, yc3, rfl⟩, hx⟩ := HSE.out es[(lo + hi) / 2] (List.getElem_mem _)
   simp only [List.cons_append, List.nil_append] at hx
   rw [hx] at hcell
   have c0 := (hbel.cell (p := ⟨b0, o0 + 0, none⟩) hb0).trans (hcell 0 _ rfl)
   have c1 := (hbel.cell (p := ⟨b0, o0 + 1, none⟩) hb0).trans (hcell 1 _ rfl)
   have c2 := (hbel.cell (p := ⟨b0, o0 + 2, none⟩) hb0).trans (hcell 2 _ rfl)
   have c3 := (hbel.cell (p := ⟨b0, o0 + 3, none⟩) hb0).trans (hcell 3 _ rfl)
   have c4 := (hbel.cell (p := ⟨b0, o0 + 4, none⟩) hb0).trans (hcell 4 _ rfl)
   have c5 := (hbel.cell (p := ⟨b0, o0 + 5, none⟩) hb0).trans (hcell 5 _ rfl)
   have c6 := (hbel.cell (p := ⟨b0, o0 + 6, none⟩) hb0).trans (hcell 6 _ rfl)
   have c7 := (hbel.cell (p := ⟨b0, o0 + 7, none⟩) hb0).trans (hcell 7 _ rfl)
   have c8 := (hbel.cell (p := ⟨b0, o0 + 8, none⟩) hb0).trans (hcell 8 _ rfl)
   have c9 := (hbel.cell (p := ⟨b0, o0 + 9, none⟩) hb0).trans (hcell 9 _ rfl)
   have c10 := (hbel.cell (p := ⟨b0, o0 + 10, none⟩) hb0).trans (hcell 10 _ rfl)
   have c11 := (hbel.cell (p := ⟨b0, o0 + 11, none⟩) hb0).trans (hcell 11 _ rfl)
   have c12 := (hbel.cell (p := ⟨b0, o0 + 12, none⟩) hb0).trans (hcell 12 _ rfl)
   have c13 := (hbel.cell (p := ⟨b0, o0 + 13, none⟩) hb0).trans (hcell 13 _ rfl)
   rw [Nat.add_zero] at c0
   have hcall := fun wx hb => HC.out ((lo + hi) / 2) hks wx hb
   rw [hx] at hcall
   have Hcall := Yq hcall
   clear hcell hx hcall
   rw [show ((((lo + hi) / 2 : Nat)) : Int) = ((lo : Int) + (hi : Int)) / 2 by omega] at hidx
   have hb0r : b0 < wr.heap.size := Nat.lt_of_lt_of_le hb0 hbel.size
   have hwr : w.heap.size < wr.heap.size := by have := Hbel1.out.size; simp at this; omega
   have HK : Held wr.heap.size wr (fun w' => ((w'.cell? ⟨b0, o0, none⟩ = some (.int .i64 xk) ∧ w'.cell? ⟨b0, o0 + 1, none⟩ = some (.int .u64 xn) ∧ w'.cell? ⟨b0, o0 + 2, none⟩ = some (.string xt) ∧ w'.cell? ⟨b0, o0 + 3, none⟩ = some (.slice xa1 xn1 xc1) ∧ w'.cell? ⟨b0, o0 + 4, none⟩ = some (.string xr) ∧ w'.cell? ⟨b0, o0 + 5, none⟩ = some (.slice xa2 xn2 xc2) ∧ w'.cell? ⟨b0, o0 + 6, none⟩ = some (.slice xa3 xn3 xc3) ∧ w'.cell? ⟨b0, o0 + 7, none⟩ = some (.int .i64 yk) ∧ w'.cell? ⟨b0, o0 + 8, none⟩ = some (.int .u64 yn) ∧ w'.cell? ⟨b0, o0 + 9, none⟩ = some (.string yt) ∧ w'.cell? ⟨b0, o0 + 10, none⟩ = some (.slice ya1 yn1 yc1) ∧ w'.cell? ⟨b0, o0 + 11, none⟩ = some (.string yr) ∧ w'.cell? ⟨b0, o0 + 12, none⟩ = some (.slice ya2 yn2 yc2) ∧ w'.cell? ⟨b0, o0 + 13, none⟩ = some (.slice ya3 yn3 yc3)) ∧ (w'.cell? ⟨w.heap.size, 0, none⟩ = some (.int .i64 tk) ∧ w'.cell? ⟨w.heap.size, 1, none⟩ = some (.int .u64 tn) ∧ w'.cell? ⟨w.heap.size, 2, none⟩ = some (.string tt) ∧ w'.cell? ⟨w.heap.size, 3, none⟩ = some (.slice ta1 tn1 tc1) ∧ w'.cell? ⟨w.heap.size, 4, none⟩ = some (.string tr) ∧ w'.cell? ⟨w.heap.size, 5, none⟩ = some (.slice ta2 tn2 tc2) ∧ w'.cell? ⟨w.heap.size, 6, none⟩ = some (.slice ta3 tn3 tc3)))) := by
    refine ⟨Nat.le_refl _, fun w' hb => ⟨⟨?_, ?_, ?_, ?_, ?_, ?_, ?_, ?_, ?_, ?_, ?_, ?_, ?_, ?_⟩, ?_, ?_, ?_, ?_, ?_, ?_, ?_⟩⟩
    all_goals
     rw [hb.cell (by first | exact hb0r | exact hwr)]
     assumption
   have HB : ∀ w', (((w'.cell? ⟨b0, o0, none⟩ = some (.int .i64 xk) ∧ w'.cell? ⟨b0, o0 + 1, none⟩ = some (.int .u64 xn) ∧ w'.cell? ⟨b0, o0 + 2, none⟩ = some (.string xt) ∧ w'.cell? ⟨b0, o0 + 3, none⟩ = some (.slice xa1 xn1 xc1) ∧ w'.cell? ⟨b0, o0 + 4, none⟩ = some (.string xr) ∧ w'.cell? ⟨b0, o0 + 5, none⟩ = some (.slice xa2 xn2 xc2) ∧ w'.cell? ⟨b0, o0 + 6, none⟩ = some (.slice xa3 xn3 xc3) ∧ w'.cell? ⟨b0, o0 + 7, none⟩ = some (.int .i64 yk) ∧ w'.cell? ⟨b0, o0 + 8, none⟩ = some (.int .u64 yn) ∧ w'.cell? ⟨b0, o0 + 9, none⟩ = some (.string yt) ∧ w'.cell? ⟨b0, o0 + 10, none⟩ = some (.slice ya1 yn1 yc1) ∧ w'.cell? ⟨b0, o0 + 11, none⟩ = some (.string yr) ∧ w'.cell? ⟨b0, o0 + 12, none⟩ = some (.slice ya2 yn2 yc2) ∧ w'.cell? ⟨b0, o0 + 13, none⟩ = some (.slice ya3 yn3 yc3)) ∧ (w'.cell? ⟨w.heap.size, 0, none⟩ = some (.int .i64 tk) ∧ w'.cell? ⟨w.heap.size, 1, none⟩ = some (.int .u64 tn) ∧ w'.cell? ⟨w.heap.size, 2, none⟩ = some (.string tt) ∧ w'.cell? ⟨w.heap.size, 3, none⟩ = some (.slice ta1 tn1 tc1) ∧ w'.cell? ⟨w.heap.size, 4, none⟩ = some (.string tr) ∧ w'.cell? ⟨w.heap.size, 5, none⟩ = some (.slice ta2 tn2 tc2) ∧ w'.cell? ⟨w.heap.size, 6, none⟩ = some (.slice ta3 tn3 tc3))) ∧ Below wr.heap.size wr w') → Below w.heap.size w w' ∧ Below (w.heap.size + 1) (w.alloc (.cells #[.int .i64 tk, .int .u64 tn, .string tt, .slice ta1 tn1 tc1, .string tr, .slice ta2 tn2 tc2, .slice ta3 tn3 tc3] 27)) w' := fun w' h => ⟨hbel.trans (h.2.mono hbel.size), Hbel1.out.trans (h.2.mono (by omega))⟩
   have HB := Yq HB; have HK := Yq HK
   by_cases hyx : c ((lo + hi) / 2) < 0
   ·have gy : decide (c ((lo + hi) / 2) < 0) = true := decide_eq_true hyx
    have I2 : Hid ((∀ t, t < (lo + hi) / 2 + 1 → c t < 0) ∧ (∀ t, hi ≤ t → t < n → 0 ≤ c t)) := ⟨fun t ht => M.out t ((lo + hi) / 2) (by omega) (by omega) hyx, Inv.out.2⟩
    generalize c ((lo + hi) / 2) = cm at *
    go_wp2_with fail
    go_region_held3 (fun w' => ((w'.cell? ⟨b0, o0, none⟩ = some (.int .i64 xk) ∧ w'.cell? ⟨b0, o0 + 1, none⟩ = some (.int .u64 xn) ∧ w'.cell? ⟨b0, o0 + 2, none⟩ = some (.string xt) ∧ w'.cell? ⟨b0, o0 + 3, none⟩ = some (.slice xa1 xn1 xc1) ∧ w'.cell? ⟨b0, o0 + 4, none⟩ = some (.string xr) ∧ w'.cell? ⟨b0, o0 + 5, none⟩ = some (.slice xa2 xn2 xc2) ∧ w'.cell? ⟨b0, o0 + 6, none⟩ = some (.slice xa3 xn3 xc3) ∧ w'.cell? ⟨b0, o0 + 7, none⟩ = some (.int .i64 yk) ∧ w'.cell? ⟨b0, o0 + 8, none⟩ = some (.int .u64 yn) ∧ w'.cell? ⟨b0, o0 + 9, none⟩ = some (.string yt) ∧ w'.cell? ⟨b0, o0 + 10, none⟩ = some (.slice ya1 yn1 yc1) ∧ w'.cell? ⟨b0, o0 + 11, none⟩ = some (.string yr) ∧ w'.cell? ⟨b0, o0 + 12, none⟩ = some (.slice ya2 yn2 yc2) ∧ w'.cell? ⟨b0, o0 + 13, none⟩ = some (.slice ya3 yn3 yc3)) ∧ (w'.cell? ⟨w.heap.size, 0, none⟩ = some (.int .i64 tk) ∧ w'.cell? ⟨w.heap.size, 1, none⟩ = some (.int .u64 tn) ∧ w'.cell? ⟨w.heap.size, 2, none⟩ = some (.string tt) ∧ w'.cell? ⟨w.heap.size, 3, none⟩ = some (.slice ta1 tn1 tc1) ∧ w'.cell? ⟨w.heap.size, 4, none⟩ = some (.string tr) ∧ w'.cell? ⟨w.heap.size, 5, none⟩ = some (.slice ta2 tn2 tc2) ∧ w'.cell? ⟨w.heap.size, 6, none⟩ = some (.slice ta3 tn3 tc3))) ∧ Below wr.heap.size wr w')
     (first | assumption | exact HK.out.start | exact HK.out.call (by assumption) (by assumption) | exact HK.out.alloc (by assumption) _)
     (first
     | (go_at_fn g; refine (Hcall.out _ (HB.out _ (by assumption)).1).mono ?_; rintro e w3 ⟨rfl, hb3⟩))
    all_goals
     go_wp2_with fail
     go_roundg (hi - ((lo + hi) / 2 + 1))
     case measure => omega
     case rel => exact ⟨(lo + hi) / 2 + 1, hi, by rw [show ((lo : Int) + (hi : Int)) / 2 + 1 = (((lo + hi) / 2 + 1 : Nat) : Int) by omega], rfl, by omega, hin, Nat.le_refl _, (HB.out _ (by assumption)).2, I2⟩
   ·have gy : decide (c ((lo + hi) / 2) < 0) = false := decide_eq_false hyx
    have I2 : Hid ((∀ t, t < lo → c t < 0) ∧ (∀ t, (lo + hi) / 2 ≤ t → t < n → 0 ≤ c t)) := ⟨Inv.out.1, fun t ht htn => Int.not_lt.1 fun h => hyx (M.out ((lo + hi) / 2) t ht htn h)⟩
    generalize c ((lo + hi) / 2) = cm at *
    go_wp2_with fail
    go_region_held3 (fun w' => ((w'.cell? ⟨b0, o0, none⟩ = some (.int .i64 xk) ∧ w'.cell? ⟨b0, o0 + 1, none⟩ = some (.int .u64 xn) ∧ w'.cell? ⟨b0, o0 + 2, none⟩ = some (.string xt) ∧ w'.cell? ⟨b0, o0 + 3, none⟩ = some (.slice xa1 xn1 xc1) ∧ w'.cell? ⟨b0, o0 + 4, none⟩ = some (.string xr) ∧ w'.cell? ⟨b0, o0 + 5, none⟩ = some (.slice xa2 xn2 xc2) ∧ w'.cell? ⟨b0, o0 + 6, none⟩ = some (.slice xa3 xn3 xc3) ∧ w'.cell? ⟨b0, o0 + 7, none⟩ = some (.int .i64 yk) ∧ w'.cell? ⟨b0, o0 + 8, none⟩ = some (.int .u64 yn) ∧ w'.cell? ⟨b0, o0 + 9, none⟩ = some (.string yt) ∧ w'.cell? ⟨b0, o0 + 10, none⟩ = some (.slice ya1 yn1 yc1) ∧ w'.cell? ⟨b0, o0 + 11, none⟩ = some (.string yr) ∧ w'.cell? ⟨b0, o0 + 12, none⟩ = some (.slice ya2 yn2 yc2) ∧ w'.cell? ⟨b0, o0 + 13, none⟩ = some (.slice ya3 yn3 yc3)) ∧ (w'.cell? ⟨w.heap.size, 0, none⟩ = some (.int .i64 tk) ∧ w'.cell? ⟨w.heap.size, 1, none⟩ = some (.int .u64 tn) ∧ w'.cell? ⟨w.heap.size, 2, none⟩ = some (.string tt) ∧ w'.cell? ⟨w.heap.size, 3, none⟩ = some (.slice ta1 tn1 tc1) ∧ w'.cell? ⟨w.heap.size, 4, none⟩ = some (.string tr) ∧ w'.cell? ⟨w.heap.size, 5, none⟩ = some (.slice ta2 tn2 tc2) ∧ w'.cell? ⟨w.heap.size, 6, none⟩ = some (.slice ta3 tn3 tc3))) ∧ Below wr.heap.size wr w')
     (first | assumption | exact HK.out.start | exact HK.out.call (by assumption) (by assumption) | exact HK.out.alloc (by assumption) _)
     (first
     | (go_at_fn g; refine (Hcall.out _ (HB.out _ (by assumption)).1).mono ?_; rintro e w3 ⟨rfl, hb3⟩))
    all_goals
     go_wp2_with fail
     go_roundg ((lo + hi) / 2 - lo)
     case measure => omega
     case rel => exact ⟨lo, (lo + hi) / 2, rfl, by rw [show ((lo : Int) + (hi : Int)) / 2 = (((lo + hi) / 2 : Nat) : Int) by omega], by omega, by omega, Nat.le_refl _, (HB.out _ (by assumption)).2, I2⟩
  ·obtain rfl : hi = lo := by omega
   have epos : pos = hi := by rw [Hpos.out]; exact Val.firstGe_of c n hi hin Inv.out.1 (fun h => Inv.out.2 hi (Nat.le_refl _) h)
   subst epos
   by_cases hlt2 : pos < n
   ·have hks : pos < es.length := by rw [Hn.out]; omega
    obtain ⟨b0, o0, hb0, hidx, hcell⟩ := FlatC.at (n := n) (cap := cap) (a := a) HX.out (by decide) (i := pos) hks Tryz.underlying25 sizePar
    obtain ⟨_, _, ⟨xk, xn, xt, xr, xa1, xn1, xc1, xa2, xn2, xc2, xa3, xn3, xc3, rfl⟩, ⟨yk, yn, yt, yr, ya1, yn1, yc1, ya2, yn2, yc2, ya3, yn3, yc3, rfl⟩, hx⟩ := HSE.out es[pos] (List.getElem_mem _)
    simp only [List.cons_append, List.nil_append] at hx
    rw [hx] at hcell
    have c0 := (hbel.cell (p := ⟨b0, o0 + 0, none⟩) hb0).trans (hcell 0 _ rfl)
    have c1 := (hbel.cell (p := ⟨b0, o0 + 1, none⟩) hb0).trans (hcell 1 _ rfl)
    have c2 := (hbel.cell (p := ⟨b0, o0 + 2, none⟩) hb0).trans (hcell 2 _ rfl)
    have c3 := (hbel.cell (p := ⟨b0, o0 + 3, none⟩) hb0).trans (hcell 3 _ rfl)
    have c4 := (hbel.cell (p := ⟨b0, o0 + 4, none⟩) hb0).trans (hcell 4 _ rfl)
    have c5 := (hbel.cell (p := ⟨b0, o0 + 5, none⟩) hb0).trans (hcell 5 _ rfl)
    have c6 := (hbel.cell (p := ⟨b0, o0 + 6, none⟩) hb0).trans (hcell 6 _ rfl)
    have c7 := (hbel.cell (p := ⟨b0, o0 + 7, none⟩) hb0).trans (hcell 7 _ rfl)
    have c8 := (hbel.cell (p := ⟨b0, o0 + 8, none⟩) hb0).trans (hcell 8 _ rfl)
    have c9 := (hbel.cell (p := ⟨b0, o0 + 9, none⟩) hb0).trans (hcell 9 _ rfl)
    have c10 := (hbel.cell (p := ⟨b0, o0 + 10, none⟩) hb0).trans (hcell 10 _ rfl)
    have c11 := (hbel.cell (p := ⟨b0, o0 + 11, none⟩) hb0).trans (hcell 11 _ rfl)
    have c12 := (hbel.cell (p := ⟨b0, o0 + 12, none⟩) hb0).trans (hcell 12 _ rfl)
    have c13 := (hbel.cell (p := ⟨b0, o0 + 13, none⟩) hb0).trans (hcell 13 _ rfl)
    rw [Nat.add_zero] at c0
    have hcall := fun wx hb => HC.out (pos) hks wx hb
    rw [hx] at hcall
    have Hcall := Yq hcall
    clear hcell hx hcall
    have hb0r : b0 < wr.heap.size := Nat.lt_of_lt_of_le hb0 hbel.size
    have hwr : w.heap.size < wr.heap.size := by have := Hbel1.out.size; simp at this; omega
    have HK : Held wr.heap.size wr (fun w' => ((w'.cell? ⟨b0, o0, none⟩ = some (.int .i64 xk) ∧ w'.cell? ⟨b0, o0 + 1, none⟩ = some (.int .u64 xn) ∧ w'.cell? ⟨b0, o0 + 2, none⟩ = some (.string xt) ∧ w'.cell? ⟨b0, o0 + 3, none⟩ = some (.slice xa1 xn1 xc1) ∧ w'.cell? ⟨b0, o0 + 4, none⟩ = some (.string xr) ∧ w'.cell? ⟨b0, o0 + 5, none⟩ = some (.slice xa2 xn2 xc2) ∧ w'.cell? ⟨b0, o0 + 6, none⟩ = some (.slice xa3 xn3 xc3) ∧ w'.cell? ⟨b0, o0 + 7, none⟩ = some (.int .i64 yk) ∧ w'.cell? ⟨b0, o0 + 8, none⟩ = some (.int .u64 yn) ∧ w'.cell? ⟨b0, o0 + 9, none⟩ = some (.string yt) ∧ w'.cell? ⟨b0, o0 + 10, none⟩ = some (.slice ya1 yn1 yc1) ∧ w'.cell? ⟨b0, o0 + 11, none⟩ = some (.string yr) ∧ w'.cell? ⟨b0, o0 + 12, none⟩ = some (.slice ya2 yn2 yc2) ∧ w'.cell? ⟨b0, o0 + 13, none⟩ = some (.slice ya3 yn3 yc3)) ∧ (w'.cell? ⟨w.heap.size, 0, none⟩ = some (.int .i64 tk) ∧ w'.cell? ⟨w.heap.size, 1, none⟩ = some (.int .u64 tn) ∧ w'.cell? ⟨w.heap.size, 2, none⟩ = some (.string tt) ∧ w'.cell? ⟨w.heap.size, 3, none⟩ = some (.slice ta1 tn1 tc1) ∧ w'.cell? ⟨w.heap.size, 4, none⟩ = some (.string tr) ∧ w'.cell? ⟨w.heap.size, 5, none⟩ = some (.slice ta2 tn2 tc2) ∧ w'.cell? ⟨w.heap.size, 6, none⟩ = some (.slice ta3 tn3 tc3)))) := by
     refine ⟨Nat.le_refl _, fun w' hb => ⟨⟨?_, ?_, ?_, ?_, ?_, ?_, ?_, ?_, ?_, ?_, ?_, ?_, ?_, ?_⟩, ?_, ?_, ?_, ?_, ?_, ?_, ?_⟩⟩
     all_goals
      rw [hb.cell (by first | exact hb0r | exact hwr)]
      assumption
    have HB : ∀ w', (((w'.cell? ⟨b0, o0, none⟩ = some (.int .i64 xk) ∧ w'.cell? ⟨b0, o0 + 1, none⟩ = some (.int .u64 xn) ∧ w'.cell? ⟨b0, o0 + 2, none⟩ = some (.string xt) ∧ w'.cell? ⟨b0, o0 + 3, none⟩ = some (.slice xa1 xn1 xc1) ∧ w'.cell? ⟨b0, o0 + 4, none⟩ = some (.string xr) ∧ w'.cell? ⟨b0, o0 + 5, none⟩ = some (.slice xa2 xn2 xc2) ∧ w'.cell? ⟨b0, o0 + 6, none⟩ = some (.slice xa3 xn3 xc3) ∧ w'.cell? ⟨b0, o0 + 7, none⟩ = some (.int .i64 yk) ∧ w'.cell? ⟨b0, o0 + 8, none⟩ = some (.int .u64 yn) ∧ w'.cell? ⟨b0, o0 + 9, none⟩ = some (.string yt) ∧ w'.cell? ⟨b0, o0 + 10, none⟩ = some (.slice ya1 yn1 yc1) ∧ w'.cell? ⟨b0, o0 + 11, none⟩ = some (.string yr) ∧ w'.cell? ⟨b0, o0 + 12, none⟩ = some (.slice ya2 yn2 yc2) ∧ w'.cell? ⟨b0, o0 + 13, none⟩ = some (.slice ya3 yn3 yc3)) ∧ (w'.cell? ⟨w.heap.size, 0, none⟩ = some (.int .i64 tk) ∧ w'.cell? ⟨w.heap.size, 1, none⟩ = some (.int .u64 tn) ∧ w'.cell? ⟨w.heap.size, 2, none⟩ = some (.string tt) ∧ w'.cell? ⟨w.heap.size, 3, none⟩ = some (.slice ta1 tn1 tc1) ∧ w'.cell? ⟨w.heap.size, 4, none⟩ = some (.string tr) ∧ w'.cell? ⟨w.heap.size, 5, none⟩ = some (.slice ta2 tn2 tc2) ∧ w'.cell? ⟨w.heap.size, 6, none⟩ = some (.slice ta3 tn3 tc3))) ∧ Below wr.heap.size wr w') → Below w.heap.size w w' ∧ Below (w.heap.size + 1) (w.alloc (.cells #[.int .i64 tk, .int .u64 tn, .string tt, .slice ta1 tn1 tc1, .string tr, .slice ta2 tn2 tc2, .slice ta3 tn3 tc3] 27)) w' := fun w' h => ⟨hbel.trans (h.2.mono hbel.size), Hbel1.out.trans (h.2.mono (by omega))⟩
    have HB := Yq HB; have HK := Yq HK
    by_cases hyx : c pos = 0
    ·have gy : (c pos == 0) = true := by simpa using hyx
     have Hyx := Yq hyx
     clear hyx
     generalize c pos = cm at *
     go_wp2_with fail
     go_region_held3 (fun w' => ((w'.cell? ⟨b0, o0, none⟩ = some (.int .i64 xk) ∧ w'.cell? ⟨b0, o0 + 1, none⟩ = some (.int .u64 xn) ∧ w'.cell? ⟨b0, o0 + 2, none⟩ = some (.string xt) ∧ w'.cell? ⟨b0, o0 + 3, none⟩ = some (.slice xa1 xn1 xc1) ∧ w'.cell? ⟨b0, o0 + 4, none⟩ = some (.string xr) ∧ w'.cell? ⟨b0, o0 + 5, none⟩ = some (.slice xa2 xn2 xc2) ∧ w'.cell? ⟨b0, o0 + 6, none⟩ = some (.slice xa3 xn3 xc3) ∧ w'.cell? ⟨b0, o0 + 7, none⟩ = some (.int .i64 yk) ∧ w'.cell? ⟨b0, o0 + 8, none⟩ = some (.int .u64 yn) ∧ w'.cell? ⟨b0, o0 + 9, none⟩ = some (.string yt) ∧ w'.cell? ⟨b0, o0 + 10, none⟩ = some (.slice ya1 yn1 yc1) ∧ w'.cell? ⟨b0, o0 + 11, none⟩ = some (.string yr) ∧ w'.cell? ⟨b0, o0 + 12, none⟩ = some (.slice ya2 yn2 yc2) ∧ w'.cell? ⟨b0, o0 + 13, none⟩ = some (.slice ya3 yn3 yc3)) ∧ (w'.cell? ⟨w.heap.size, 0, none⟩ = some (.int .i64 tk) ∧ w'.cell? ⟨w.heap.size, 1, none⟩ = some (.int .u64 tn) ∧ w'.cell? ⟨w.heap.size, 2, none⟩ = some (.string tt) ∧ w'.cell? ⟨w.heap.size, 3, none⟩ = some (.slice ta1 tn1 tc1) ∧ w'.cell? ⟨w.heap.size, 4, none⟩ = some (.string tr) ∧ w'.cell? ⟨w.heap.size, 5, none⟩ = some (.slice ta2 tn2 tc2) ∧ w'.cell? ⟨w.heap.size, 6, none⟩ = some (.slice ta3 tn3 tc3))) ∧ Below wr.heap.size wr w')
      (first | assumption | exact HK.out.start | exact HK.out.call (by assumption) (by assumption) | exact HK.out.alloc (by assumption) _)
      (first
      | (go_at_fn g; refine (Hcall.out _ (HB.out _ (by assumption)).1).mono ?_; rintro e w3 ⟨rfl, hb3⟩))
     all_goals
      go_wp2_with fail
      go_ret2
      exact ⟨by rw [Hfin.out, Hyx.out]; simp [hlt2], (HB.out _ (by assumption)).1⟩
    ·have gy : (c pos == 0) = false := by simpa using hyx
     have Hyx := Yq hyx
     clear hyx
     generalize c pos = cm at *
     go_wp2_with fail
     go_region_held3 (fun w' => ((w'.cell? ⟨b0, o0, none⟩ = some (.int .i64 xk) ∧ w'.cell? ⟨b0, o0 + 1, none⟩ = some (.int .u64 xn) ∧ w'.cell? ⟨b0, o0 + 2, none⟩ = some (.string xt) ∧ w'.cell? ⟨b0, o0 + 3, none⟩ = some (.slice xa1 xn1 xc1) ∧ w'.cell? ⟨b0, o0 + 4, none⟩ = some (.string xr) ∧ w'.cell? ⟨b0, o0 + 5, none⟩ = some (.slice xa2 xn2 xc2) ∧ w'.cell? ⟨b0, o0 + 6, none⟩ = some (.slice xa3 xn3 xc3) ∧ w'.cell? ⟨b0, o0 + 7, none⟩ = some (.int .i64 yk) ∧ w'.cell? ⟨b0, o0 + 8, none⟩ = some (.int .u64 yn) ∧ w'.cell? ⟨b0, o0 + 9, none⟩ = some (.string yt) ∧ w'.cell? ⟨b0, o0 + 10, none⟩ = some (.slice ya1 yn1 yc1) ∧ w'.cell? ⟨b0, o0 + 11, none⟩ = some (.string yr) ∧ w'.cell? ⟨b0, o0 + 12, none⟩ = some (.slice ya2 yn2 yc2) ∧ w'.cell? ⟨b0, o0 + 13, none⟩ = some (.slice ya3 yn3 yc3)) ∧ (w'.cell? ⟨w.heap.size, 0, none⟩ = some (.int .i64 tk) ∧ w'.cell? ⟨w.heap.size, 1, none⟩ = some (.int .u64 tn) ∧ w'.cell? ⟨w.heap.size, 2, none⟩ = some (.string tt) ∧ w'.cell? ⟨w.heap.size, 3, none⟩ = some (.slice ta1 tn1 tc1) ∧ w'.cell? ⟨w.heap.size, 4, none⟩ = some (.string tr) ∧ w'.cell? ⟨w.heap.size, 5, none⟩ = some (.slice ta2 tn2 tc2) ∧ w'.cell? ⟨w.heap.size, 6, none⟩ = some (.slice ta3 tn3 tc3))) ∧ Below wr.heap.size wr w')
      (first | assumption | exact HK.out.start | exact HK.out.call (by assumption) (by assumption) | exact HK.out.alloc (by assumption) _)
      (first
      | (go_at_fn g; refine (Hcall.out _ (HB.out _ (by assumption)).1).mono ?_; rintro e w3 ⟨rfl, hb3⟩))
     all_goals
      go_wp2_with fail
      go_ret2
      exact ⟨by rw [Hfin.out]; simp [hlt2, Hyx.out], (HB.out _ (by assumption)).1⟩
   ·have gn : decide (pos < n) = false := decide_eq_false hlt2
    go_wp2_with fail
    go_quiet (fail)
    go_wp2_with fail
    go_ret2
    exact ⟨by rw [Hfin.out]; simp [hlt2], Below.drewN hbel _⟩
end Go.Proofs.YtlmbcoecipbblaaGreatDoor
