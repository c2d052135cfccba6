/- edit.none, part, walked. edit.bare, walked. edit.some, Step.right, walked. -/
import Derived.Test.YtlmbcoecipbblaaGreatDoorGpK
set_option maxRecDepth 100000
set_option maxHeartbeats 4000000
set_option linter.unusedVariables false
set_option linter.unusedSimpArgs false
namespace Go.Proofs.YtlmbcoecipbblaaGreatDoor
open Go.RowKit
open Val (V E cmp right noneV partB bareE eright)
theorem enone_any (x : V) (xc : List Value) (w : World) (hx : VR (frag w) x xc) :
  Calls Tryz.prog 42 #[.agg xc.toArray] w fun e w' => e = .returned (.bool (noneV x)) ∧ Below w.heap.size w w' := by
 have HI := Yq (fun (wx : World) (hb : Below w.heap.size w wx) => right_any x xc wx (hx.mono (below_le hb)))
 have hP : noneV x = (decide (x.kind = 0) && right x) := rfl
 rw [hP]
 obtain ⟨xn, xt, xr, xa1, xn1, xc1, xa2, xn2, xc2, xa3, xn3, xc3, rfl⟩ := hx.shapeK
 clear hx hP
 generalize x.kind = k at *
 have hb0 := Yq ((Below.refl w.heap.size w).alloc (Nat.le_refl _) (.cells #[.int .i64 k, .int .u64 xn, .string xt, .slice xa1 xn1 xc1, .string xr, .slice xa2 xn2 xc2, .slice xa3 xn3 xc3] 27))
 by_cases h1 : k = 0
 ·subst h1
  go_enter Tryz.func42, Tryz.ntmps42
  go_wp2_with fail
  refine (HI.out _ hb0.out).mono ?_
  rintro e w' ⟨rfl, hb⟩
  go_wp2_with fail
  go_ret
  exact ⟨ret_bool (by simp), hb0.out.trans (hb.mono hb0.out.size)⟩
 ·have h1' : (k == 0) = false := by simpa using h1
  have H1 := Yq h1; clear h1
  go_enter Tryz.func42, Tryz.ntmps42
  go_wp2_with fail
  go_ret
  exact ⟨ret_bool (by first | rfl | simp [H1.out]), hb0.out⟩
theorem epart_any (x : V) (xc : List Value) (w : World) (hx : VR (frag w) x xc) :
  Calls Tryz.prog 70 #[.agg xc.toArray] w fun e w' => e = .returned (.bool (partB x)) ∧ Below w.heap.size w w' := by
 have HI := Yq (fun (wx : World) (hb : Below w.heap.size w wx) => right_any x xc wx (hx.mono (below_le hb)))
 have hP : partB x = (decide (1 ≤ x.kind ∧ x.kind ≤ 3) && right x) := rfl
 rw [hP]
 obtain ⟨xn, xt, xr, xa1, xn1, xc1, xa2, xn2, xc2, xa3, xn3, xc3, rfl⟩ := hx.shapeK
 clear hx hP
 generalize x.kind = k at *
 have hb0 := Yq ((Below.refl w.heap.size w).alloc (Nat.le_refl _) (.cells #[.int .i64 k, .int .u64 xn, .string xt, .slice xa1 xn1 xc1, .string xr, .slice xa2 xn2 xc2, .slice xa3 xn3 xc3] 27))
 by_cases h1 : 1 ≤ k
 ·by_cases h3 : k ≤ 3
  ·go_enter Tryz.func70, Tryz.ntmps70
   go_wp2_with fail
   refine (HI.out _ hb0.out).mono ?_
   rintro e w' ⟨rfl, hb⟩
   go_wp2_with fail
   go_ret
   exact ⟨ret_bool (by rw [decide_eq_true (show 1 ≤ k ∧ k ≤ 3 from ⟨by omega, by omega⟩)]; simp), hb0.out.trans (hb.mono hb0.out.size)⟩
  ·have h3' : decide (k ≤ 3) = false := by simpa using h3
   go_enter Tryz.func70, Tryz.ntmps70
   go_wp2_with fail
   go_ret
   exact ⟨ret_bool (by first | rfl | (rw [decide_eq_false (by omega)]; simp)), hb0.out⟩
 ·have h1' : decide (1 ≤ k) = false := by simpa using h1
  go_enter Tryz.func70, Tryz.ntmps70
  go_wp2_with fail
  go_ret
  exact ⟨ret_bool (by first | rfl | (rw [decide_eq_false (by omega)]; simp)), hb0.out⟩
open Val (V E cmp right noneV partB bareE eright v0)
structure EdAt (w : World) (g : Nat) (k : Int) (oc nc : List Value) (a1 : Option Addr) (n1 c1 : Nat) (r : Bool) (ro rn : ByteArray) (a2 : Option Addr) (n2 c2 : Nat) (a3 : Option Addr) (n3 c3 : Nat) : Prop where
 r1 : w.rangeAt g 1 oc
 r8 : w.rangeAt g 8 nc
 c0 : w.cell? ⟨g, 0, none⟩ = some (.int .i64 k)
 c15 : w.cell? ⟨g, 15, none⟩ = some (.slice a1 n1 c1)
 c16 : w.cell? ⟨g, 16, none⟩ = some (.bool r)
 c17 : w.cell? ⟨g, 17, none⟩ = some (.string ro)
 c18 : w.cell? ⟨g, 18, none⟩ = some (.string rn)
 c19 : w.cell? ⟨g, 19, none⟩ = some (.slice a2 n2 c2)
 c20 : w.cell? ⟨g, 20, none⟩ = some (.slice a3 n3 c3)
theorem EdAt.of {w : World} {g : Nat} {k : Int} {oc nc : List Value} {a1 : Option Addr} {n1 c1 : Nat} {r : Bool} {ro rn : ByteArray} {a2 : Option Addr} {n2 c2 : Nat} {a3 : Option Addr} {n3 c3 : Nat} (lo : oc.length = 7) (ln : nc.length = 7)
  (h : Blk w g (.int .i64 k :: (oc ++ (nc ++ [.slice a1 n1 c1, .bool r, .string ro, .string rn, .slice a2 n2 c2, .slice a3 n3 c3])))) : EdAt w g k oc nc a1 n1 c1 r ro rn a2 n2 c2 a3 n3 c3 := by
 have C : Cells21 (.int .i64 k :: (oc ++ (nc ++ [.slice a1 n1 c1, .bool r, .string ro, .string rn, .slice a2 n2 c2, .slice a3 n3 c3]))) (.int .i64 k) oc nc (.slice a1 n1 c1) (.bool r) (.string ro) (.string rn) (.slice a2 n2 c2) (.slice a3 n3 c3) := ⟨rfl, lo, ln⟩
 exact ⟨h.range (p := [.int .i64 k]) (q := oc) rfl rfl, h.range (p := .int .i64 k :: oc) (q := nc) rfl (by simp [lo]), h.cell C.c0, h.cell (C.tl 0), h.cell (C.tl 1), h.cell (C.tl 2), h.cell (C.tl 3), h.cell (C.tl 4), h.cell (C.tl 5)⟩
theorem cat_empty (a b : ByteArray) : (a ++ b).toList.isEmpty = decide (a.size + b.size = 0) := by
 by_cases h : a.size + b.size = 0
 ·rw [isEmpty_yes (by rw [ByteArray.size_append]; exact h), decide_eq_true h]
 ·rw [isEmpty_no (by rw [ByteArray.size_append]; exact h), decide_eq_false h]
theorem ebare_any (x : E) (xc : List Value) (w : World) (hx : ER (frag w) x xc) (hz : x.ro.size + x.rn.size ≤ 9223372036854775807) :
  Calls Tryz.prog 20 #[.agg xc.toArray] w fun e w' => e = .returned (.bool x.bare) ∧ Below w.heap.size w w' := by
 have HO := Yq (fun (wx : World) (hb : Below w.heap.size w wx) => eown_any x xc wx (hx.mono (below_le hb)))
 have HL := Yq hx.shape.len
 have hb0 := Yq ((Below.refl w.heap.size w).alloc (Nat.le_refl _) (.cells xc.toArray 32))
 clear hx
 rw [← Val.bare_own x]
 have Hz : Hid ((Val.ownE x).ro.size + (Val.ownE x).rn.size ≤ 9223372036854775807) := by
  show _ ≤ _
  obtain ⟨k, o, n, f, r, ro, rn, s, ks⟩ := x
  unfold Val.ownE
  simp only [Val.E.ro, Val.E.rn] at hz ⊢
  split
  ·simp
  ·exact hz
 clear hz
 generalize Val.ownE x = y at *
 go_enter Tryz.func20, Tryz.ntmps20
 go_wp2_with (first
  | (refine wpList_load_new rfl 32 _ rfl rfl _ Tryz.underlying32 rfl (iC infoE HL) ?_))
 refine (HO.out _ hb0.out).mono ?_
 rintro e w1 ⟨yc, rfl, hy, hb⟩
 have Hb1 := Yq (hb0.out.trans (hb.mono hb0.out.size))
 have HL2 := Yq hy.shape.len
 have HN2 := Yq hy.shape.one
 clear hb HO
 obtain ⟨k, o, n, f, r, ro, rn, s, ks⟩ := y
 rw [ER] at hy
 obtain ⟨oc, nc, fv, sv, kv, fe, se, ke, hyc, hsz, ⟨h3, h4⟩, ⟨h5, h6, h7⟩, h8, h9, h10⟩ := hy
 obtain ⟨a1, c1, rfl, _⟩ := h5.len
 obtain ⟨a2, c2, rfl, _⟩ := h6.len
 obtain ⟨a3, c3, rfl, _⟩ := h7.len
 have hB : Val.bareAll (.mk k o n f r ro rn s ks) = (noneV o && (noneV n && (decide (fe.length = 0) && (!r && (decide (ro.size + rn.size = 0) && (decide (se.length = 0) && decide (ke.length = 0))))))) := by rw [h8.len, h9.len, h10.len]; rfl
 have HB := Yq hB
 have hz : ¬ 9223372036854775807 < ro.size + rn.size := Nat.not_lt.2 Hz.out
 have HC := Yq (cat_empty ro rn)
 have HS := Yq (fun (w2 : World) (g : Nat) (hB : Blk w2 g yc) => EdAt.of h3.len h4.len (hyc ▸ hB))
 have HLo := Yq h3.len
 have HLn := Yq h4.len
 have HN := Yq (fun (wx : World) (hb : Below w1.heap.size w1 wx) => enone_any o oc wx (h3.mono (below_le hb)))
 have HM := Yq (fun (wx : World) (hb : Below w1.heap.size w1 wx) => enone_any n nc wx (h4.mono (below_le hb)))
 clear hyc h3 h4 h5 h6 h7 h8 h9 h10 hB hsz
 generalize fe.length = n1 at *
 generalize se.length = n2 at *
 generalize ke.length = n3 at *
 generalize noneV o = bo at *
 generalize noneV n = bn at *
 go_wp2_with (first
  | (refine wpList_store_lay rfl 32 _ _ rfl rfl _ rfl ?_ ?_ ?_ ?_; (· exact iC infoE HL2); (· exact HL2.out.symm); (· exact HN2.out); (intro w2 hB2 hb2; have HB2 := Yq hB2; have Hb2 := Yq hb2; have hz2 := hB2.lt; obtain ⟨r1, r8, c0, c15, c16, c17, c18, c19, c20⟩ := HS.out w2 _ hB2; clear hB2 hb2))
  | (refine wpList_load_seg rfl 27 _ rfl _ _ rfl _ _ (by assumption) Tryz.underlying27 rfl ?_ ?_; (· first | exact iC infoV HLo | exact iC infoV HLn)))
 refine (HN.out _ Hb2.out).mono ?_
 rintro e w3 ⟨rfl, hb3⟩
 have HB3 := Yq (HB2.out.below hb3 hz2)
 have Hb13 := Yq (Hb2.out.trans (hb3.mono Hb2.out.size))
 have Hb3 := Yq (Hb1.out.trans (Hb13.out.mono Hb1.out.size))
 clear r1 r8 c0 c15 c16 c17 c18 c19 c20 hb3 hz2
 cases bo with
 | false =>
  go_wp2_with fail
  go_ret
  exact ⟨ret_bool (by rw [HB.out]; rfl), Hb3.out⟩
 | true =>
  have hz3 := HB3.out.lt
  obtain ⟨r1, r8, c0, c15, c16, c17, c18, c19, c20⟩ := HS.out w3 _ HB3.out
  go_wp2_with (refine wpList_load_seg rfl 27 _ rfl _ _ rfl _ _ (by assumption) Tryz.underlying27 rfl ?_ ?_; (· first | exact iC infoV HLo | exact iC infoV HLn))
  refine (HM.out _ Hb13.out).mono ?_
  rintro e w4 ⟨rfl, hb4⟩
  have HB4 := Yq (HB3.out.below hb4 hz3)
  have Hb4 := Yq (Hb3.out.trans (hb4.mono Hb3.out.size))
  clear r1 r8 c0 c15 c16 c17 c18 c19 c20 hb4 hz3
  cases bn with
  | false =>
   go_wp2_with fail
   go_ret
   exact ⟨ret_bool (by rw [HB.out]; rfl), Hb4.out⟩
  | true =>
   obtain ⟨r1, r8, c0, c15, c16, c17, c18, c19, c20⟩ := HS.out w4 _ HB4.out
   go_wp2_with fail
   all_goals
    go_ret
    refine ⟨ret_bool ?_, Hb4.out⟩
    rw [HB.out, ← HC.out]
    clear HB HC HM HN HS Hb4 HB4 Hb3 HB3 Hb13 Hb2 HB2 r1 r8 c0 c15 c16 c17 c18 c19 c20 HL HL2 HN2 HLo HLn Hz hz
    by_cases q1 : n1 = 0 <;> by_cases q2 : n2 = 0 <;> by_cases q3 : n3 = 0 <;> simp_all
open Val (V E cmp right noneV partB bareE eright esome stepRight esm v0)
theorem ER.k0 {h : Frag} {x : E} {xc : List Value} (hx : ER h x xc) : xc[0]? = some (.int .i64 x.kind) := by
 cases x
 rw [ER] at hx
 obtain ⟨oc, nc, fv, sv, kv, fe, se, ke, rfl, _⟩ := hx
 rfl
theorem esm_sum {x : E} (h : esm x) : x.ro.size + x.rn.size ≤ 9223372036854775807 := by
 cases x
 rw [esm] at h
 simp only [Val.E.ro, Val.E.rn]; omega
def ERightAt (N : Nat) : Prop := ∀ (x : E) (xc : List Value) (w : World), SizeOf.sizeOf x < N → esm x → ER (frag w) x xc →
 Calls Tryz.prog 9 #[.agg xc.toArray] w fun e w' => e = .returned (.bool (eright x)) ∧ Below w.heap.size w w'
theorem some_at (N : Nat) (ih : ERightAt N) (x : E) (xc : List Value) (w : World) (hs : SizeOf.sizeOf x < N) (hz : esm x) (hx : ER (frag w) x xc) :
  Calls Tryz.prog 49 #[.agg xc.toArray] w fun e w' => e = .returned (.bool (esome x)) ∧ Below w.heap.size w w' := by
 have HI := Yq (fun (wx : World) (hb : Below w.heap.size w wx) => ih x xc wx hs hz (hx.mono (below_le hb)))
 have HL := Yq hx.shape.len
 have HS := Yq (fun (w2 : World) (g : Nat) (hB : Blk w2 g xc) => And.intro (hB.cell hx.k0) hB.whole)
 have hE : esome x = (decide (x.kind ≠ 0) && eright x) := rfl
 have HE := Yq hE
 clear hx hE hz
 generalize x.kind = k at *
 generalize eright x = rx at *
 go_enter Tryz.func49, Tryz.ntmps49
 go_wp2_with (first
  | (refine wpList_box_lay rfl _ _ rfl _ rfl ?_; (intro w0 g hg hB0 hb0; obtain ⟨q0, r0⟩ := HS.out w0 g hB0; clear hB0))
  | (refine wpList_load_seg rfl 32 _ rfl _ _ rfl _ _ (by assumption) Tryz.underlying32 rfl (iC infoE HL) ?_)
  | (go_at_call 9; refine (HI.out _ (by assumption)).mono ?_; rintro e w1 ⟨rfl, hb1⟩; replace hb0 := hb0.trans (hb1.mono hb0.size); clear hb1 q0 r0))
 all_goals
  go_ret
  refine ⟨ret_bool ?_, hb0⟩
  rw [HE.out]
  simp [*]
structure StAt (w : World) (g : Nat) (k c e : Int) (vc xc : List Value) : Prop where
 c0 : w.cell? ⟨g, 0, none⟩ = some (.int .i64 k)
 c1 : w.cell? ⟨g, 1, none⟩ = some (.int .i64 c)
 c9 : w.cell? ⟨g, 9, none⟩ = some (.int .i64 e)
 r2 : w.rangeAt g 2 vc
 r9 : w.rangeAt g 9 xc
theorem StAt.of {w : World} {g : Nat} {k c e : Int} {vc xc : List Value} (lv : vc.length = 7) (h0 : xc[0]? = some (.int .i64 e)) (h : Blk w g (.int .i64 k :: .int .i64 c :: (vc ++ xc))) : StAt w g k c e vc xc := by
 have r9 : w.rangeAt g 9 xc := h.range (p := .int .i64 k :: .int .i64 c :: vc) (q := xc) (r := []) (by simp) (by simp [lv])
 exact ⟨h.cell rfl, h.cell rfl, r9 0 _ h0, h.range (p := [.int .i64 k, .int .i64 c]) (q := vc) rfl rfl, r9⟩
theorem step_at (N : Nat) (ih : ERightAt N) (k c : Int) (v : V) (x : E) (vc xc : List Value) (w : World) (hs : SizeOf.sizeOf x < N) (hz : esm x) (hv : VR (frag w) v vc) (hx : ER (frag w) x xc) :
  Calls Tryz.prog 50 #[.agg (Value.int .i64 k :: .int .i64 c :: (vc ++ xc)).toArray] w fun e w' => e = .returned (.bool (stepRight k c v x)) ∧ Below w.heap.size w w' := by
 have HI := Yq (fun (wx : World) (hb : Below w.heap.size w wx) => some_at N ih x xc wx hs hz (hx.mono (below_le hb)))
 have HR := Yq (fun (wx : World) (hb : Below w.heap.size w wx) => ebare_any x xc wx (hx.mono (below_le hb)) (esm_sum hz))
 have HN := Yq (fun (wx : World) (hb : Below w.heap.size w wx) => enone_any v vc wx (hv.mono (below_le hb)))
 have HP := Yq (fun (wx : World) (hb : Below w.heap.size w wx) => epart_any v vc wx (hv.mono (below_le hb)))
 have HL := Yq hx.shape.len
 have HLv := Yq hv.len
 have HS := Yq (fun (w2 : World) (g : Nat) (hB : Blk w2 g (.int .i64 k :: .int .i64 c :: (vc ++ xc))) => StAt.of hv.len hx.k0 hB)
 have hE : stepRight k c v x = if k = 1 then decide (1 ≤ c ∧ c ≤ 1048576) && (noneV v && (decide (x.kind = 0) && x.bare)) else
  if k = 2 ∨ k = 3 then decide (c = 0) && (partB v && (decide (x.kind = 0) && x.bare)) else
  if k = 4 then decide (c = 0) && (noneV v && esome x) else false := rfl
 have HE := Yq hE
 clear hx hv hE hz ih
 generalize x.kind = e at *
 generalize x.bare = bb at *
 generalize esome x = sx at *
 generalize noneV v = nv at *
 generalize partB v = pv at *
 go_enter Tryz.func50, Tryz.ntmps50
 go_wp2_with (first
  | (refine wpList_box_lay rfl _ _ rfl _ rfl ?_; (intro w0 g hg hB0 hb0; obtain ⟨q0, q1, q9, r2, r9⟩ := HS.out w0 g hB0; have hz0 := hB0.lt))
  | (refine wpList_load_seg rfl 32 _ rfl _ _ rfl _ _ (by assumption) Tryz.underlying32 rfl (iC infoE HL) ?_)
  | (refine wpList_load_seg rfl 27 _ rfl _ _ rfl _ _ (by assumption) Tryz.underlying27 rfl (iC infoV HLv) ?_)
  | (go_at_call 20; refine (HR.out _ (by assumption)).mono ?_; rintro e w1 ⟨rfl, hb1⟩; replace hb0 := hb0.trans (hb1.mono hb0.size); replace hB0 := hB0.below hb1 hz0; replace hz0 := hB0.lt; clear hb1 q0 q1 q9 r2 r9; obtain ⟨q0, q1, q9, r2, r9⟩ := HS.out _ _ hB0)
  | (go_at_call 42; refine (HN.out _ (by assumption)).mono ?_; rintro e w1 ⟨rfl, hb1⟩; replace hb0 := hb0.trans (hb1.mono hb0.size); replace hB0 := hB0.below hb1 hz0; replace hz0 := hB0.lt; clear hb1 q0 q1 q9 r2 r9; obtain ⟨q0, q1, q9, r2, r9⟩ := HS.out _ _ hB0)
  | (go_at_call 70; refine (HP.out _ (by assumption)).mono ?_; rintro e w1 ⟨rfl, hb1⟩; replace hb0 := hb0.trans (hb1.mono hb0.size); replace hB0 := hB0.below hb1 hz0; replace hz0 := hB0.lt; clear hb1 q0 q1 q9 r2 r9; obtain ⟨q0, q1, q9, r2, r9⟩ := HS.out _ _ hB0)
  | (go_at_call 49; refine (HI.out _ (by assumption)).mono ?_; rintro e w1 ⟨rfl, hb1⟩; replace hb0 := hb0.trans (hb1.mono hb0.size); clear hb1 q0 q1 q9 r2 r9))
 all_goals
  go_ret
  refine ⟨ret_bool ?_, hb0⟩
  rw [HE.out]
  clear HI HR HN HP HS HE hb0 HL HLv hB0 hz0 hg
  first | (simp_all; done) | (simp_all; omega)
end Go.Proofs.YtlmbcoecipbblaaGreatDoor
