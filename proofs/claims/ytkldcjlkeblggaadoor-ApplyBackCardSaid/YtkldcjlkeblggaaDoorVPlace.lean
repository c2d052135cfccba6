/- place and spot, walked. -/
import Derived.Test.YtkldcjlkeblggaaDoorVBinP
import Derived.Test.YtkldcjlkeblggaaDoorVSplice
import Derived.Test.YtkldcjlkeblggaaDoorVRightAll
import Derived.Test.YtkldcjlkeblggaaDoorGroupB
namespace Go.Proofs.YtkldcjlkeblggaaDoor
open Go.RowKit
open Val (V cmp ocmp cF posF hitF cP posP hitP get find withV putV putP spl one MonoN v0)
set_option linter.unusedVariables false

set_option maxRecDepth 100000 in
set_option maxHeartbeats 4000000 in
theorem place1_any (m num : Int) (x : V) (xc : List Value) (w : World) (hx : VR (frag w) x xc) :
    Calls Tryd.prog 76 #[.agg (.int .i64 m :: xc).toArray, .int .i64 num] w fun e w' => e = .returned (.int .i64 (ocmp m num)) ∧ Below w.heap.size w w' := by
  obtain ⟨xk, xn, xt, xr, xa1, xn1, xc1, xa2, xn2, xc2, xa3, xn3, xc3, rfl⟩ := hx.shape
  clear hx
  go_enter Tryd.func76, Tryd.ntmps76
  go_wp2_with (go_at_call 36; refine (cmp_int _ _ _).mono ?_; rintro e w' ⟨rfl, rfl⟩)
  go_ret
  exact ⟨rfl, (Below.refl _ _).alloc (Nat.le_refl _) _⟩

set_option maxRecDepth 100000 in
set_option maxHeartbeats 4000000 in
theorem spot1_any (m x k : V) (mc xc kc : List Value) (w : World) (hm : VR (frag w) m mc) (hx : VR (frag w) x xc) (hk : VR (frag w) k kc) :
    Calls Tryd.prog 80 #[.agg (mc ++ xc).toArray, .agg kc.toArray] w fun e w' => e = .returned (.int .i64 (cmp m k)) ∧ Below w.heap.size w w' := by
  have HI := Lib.hid (fun (wx : World) (hb : Below w.heap.size w wx) => compare_any m k mc kc wx (hm.mono (below_le hb)) (hk.mono (below_le hb)))
  obtain ⟨xk, xn, xt, xr, xa1, xn1, xc1, xa2, xn2, xc2, xa3, xn3, xc3, rfl⟩ := hx.shape
  obtain ⟨yk, yn, yt, yr, ya1, yn1, yc1, ya2, yn2, yc2, ya3, yn3, yc3, rfl⟩ := hm.shape
  obtain ⟨zk, zn, zt, zr, za1, zn1, zc1, za2, zn2, zc2, za3, zn3, zc3, rfl⟩ := hk.shape
  clear hx hm hk
  simp only [List.cons_append, List.nil_append]
  have hb0 := Lib.hid (Below.alloc (Below.alloc (Below.refl w.heap.size w) (Nat.le_refl _) (.cells #[.int .i64 yk, .int .u64 yn, .string yt, .slice ya1 yn1 yc1, .string yr, .slice ya2 yn2 yc2, .slice ya3 yn3 yc3, .int .i64 xk, .int .u64 xn, .string xt, .slice xa1 xn1 xc1, .string xr, .slice xa2 xn2 xc2, .slice xa3 xn3 xc3] 61)) (by simp) (.cells #[.int .i64 zk, .int .u64 zn, .string zt, .slice za1 zn1 zc1, .string zr, .slice za2 zn2 zc2, .slice za3 zn3 zc3] 27))
  go_enter Tryd.func80, Tryd.ntmps80
  go_wp2_with fail
  refine (HI.out _ hb0.out).mono ?_
  rintro e w' ⟨rfl, hb⟩
  go_wp2_with fail
  go_ret
  exact ⟨rfl, hb0.out.trans (hb.mono hb0.out.size)⟩

set_option maxRecDepth 100000 in
set_option maxHeartbeats 4000000 in
theorem place_any (x : V) (num : Int) (xc : List Value) (w : World) (hx : VR (frag w) x xc) (hm : MonoN (cF x.fields num) x.fields.length) (hl : x.fields.length < 1000000) :
    Calls Tryd.prog 64 #[.agg xc.toArray, .int .i64 num] w fun e w' => e = .returned (.tuple #[.int .i64 (posF x.fields num : Nat), .bool (hitF x.fields num)]) ∧ Below w.heap.size w w' := by
  obtain ⟨k, n, t, f, r, l, p⟩ := x
  rw [VR] at hx
  obtain ⟨fv, lv, pv, fe, le, pe, rfl, _, ⟨hf, hl', hp⟩, hF, hL, hP⟩ := hx
  have HB : ∀ wx, Below w.heap.size w wx → Calls Tryd.prog 75 #[fv, .int .i64 num, .func (.func 76) #[] #[]] wx fun e w' => e = .returned (.tuple #[.int .i64 (posF f num : Nat), .bool (hitF f num)]) ∧ Below wx.heap.size wx w' := by
    intro wx hb
    have := binsearch_fld fe num (cF f num) fv 76 wx (hf.mono (below_le hb)) hF.shapes (enters_of Tryd.func76 (by kernel_rfl) rfl) (by rw [hF.len]; exact hm) (by rw [hF.len]; exact Nat.lt_trans hl (by decide)) ?_
    · rw [hF.len] at this; exact this
    · intro i h1 wy hb2
      have h1' : i < f.length := by rw [← hF.len]; exact h1
      obtain ⟨xc, e1, r1⟩ := hF.at h1' h1
      rw [e1]
      have e2 : cF f num i = ocmp f[i].1 num := by unfold cF; rw [List.getD_eq_getElem?_getD, List.getElem?_eq_getElem h1', Option.getD_some]
      rw [e2]
      exact place1_any _ _ _ xc wy (r1.mono ((below_le hb).trans (below_le hb2)))
  obtain ⟨a1, c1, rfl, _⟩ := hf.len
  obtain ⟨a2, c2, rfl, _⟩ := hl'.len
  obtain ⟨a3, c3, rfl, _⟩ := hp.len
  have HB := Lib.hid HB
  clear hf hl' hp hF hL hP hm hl
  generalize fe.length = n1 at *
  generalize le.length = n2 at *
  generalize pe.length = n3 at *
  show Calls _ _ _ _ fun e w' => e = .returned (.tuple #[.int .i64 (posF f num : Nat), .bool (hitF f num)]) ∧ Below w.heap.size w w'
  generalize posF f num = pos at *
  generalize hitF f num = hit at *
  have hb0 := Lib.hid ((Below.refl w.heap.size w).alloc (Nat.le_refl _) (.cells #[.int .i64 k, .int .u64 n, .string t, .slice a1 n1 c1, .string r, .slice a2 n2 c2, .slice a3 n3 c3] 27))
  go_enter Tryd.func64, Tryd.ntmps64
  go_wp2_with fail
  refine (HB.out _ hb0.out).mono ?_
  rintro e w' ⟨rfl, hb⟩
  go_wp2_with fail
  go_ret2
  exact ⟨rfl, hb0.out.trans (hb.mono hb0.out.size)⟩

set_option maxRecDepth 100000 in
set_option maxHeartbeats 4000000 in
theorem spot_any (x k : V) (xc kc : List Value) (w : World) (hx : VR (frag w) x xc) (hk : VR (frag w) k kc) (hm : MonoN (cP x.pairs k) x.pairs.length) (hl : x.pairs.length < 1000000) :
    Calls Tryd.prog 71 #[.agg xc.toArray, .agg kc.toArray] w fun e w' => e = .returned (.tuple #[.int .i64 (posP x.pairs k : Nat), .bool (hitP x.pairs k)]) ∧ Below w.heap.size w w' := by
  obtain ⟨xk, n, t, f, r, l, p⟩ := x
  rw [VR] at hx
  obtain ⟨fv, lv, pv, fe, le, pe, rfl, _, ⟨hf, hl', hp⟩, hF, hL, hP⟩ := hx
  have hks := hk.shape
  have HB : ∀ wx, Below w.heap.size w wx → Calls Tryd.prog 79 #[pv, .agg kc.toArray, .func (.func 80) #[] #[]] wx fun e w' => e = .returned (.tuple #[.int .i64 (posP p k : Nat), .bool (hitP p k)]) ∧ Below wx.heap.size wx w' := by
    intro wx hb
    obtain ⟨zk, zn, zt, zr, za1, zn1, zc1, za2, zn2, zc2, za3, zn3, zc3, hz⟩ := hks
    have h0 : ∀ (i : Nat) (h1 : i < pe.length) (wy : World), Below wx.heap.size wx wy → Calls Tryd.prog 80 #[.agg pe[i].toArray, .agg kc.toArray] wy fun e w' => e = .returned (.int .i64 (cP p k i)) ∧ Below wy.heap.size wy w' := by
      intro i h1 wy hb2
      have h1' : i < p.length := by rw [← hP.len]; exact h1
      obtain ⟨mc, xc, e1, r1, r2⟩ := hP.at h1' h1
      rw [e1]
      have e2 : cP p k i = cmp p[i].1 k := by unfold cP; rw [List.getD_eq_getElem?_getD, List.getElem?_eq_getElem h1', Option.getD_some]
      rw [e2]
      have hle := (below_le hb).trans (below_le hb2)
      exact spot1_any _ _ _ mc xc kc wy (r1.mono hle) (r2.mono hle) (hk.mono hle)
    rw [hz] at h0 ⊢
    have := binsearch_par pe zk zn zt zr za1 zn1 zc1 za2 zn2 zc2 za3 zn3 zc3 (cP p k) pv 80 wx (hp.mono (below_le hb)) hP.shapes (enters_of Tryd.func80 (by kernel_rfl) rfl) (by rw [hP.len]; exact hm) (by rw [hP.len]; exact Nat.lt_trans hl (by decide)) h0
    rw [hP.len] at this; exact this
  obtain ⟨a1, c1, rfl, _⟩ := hf.len
  obtain ⟨a2, c2, rfl, _⟩ := hl'.len
  obtain ⟨a3, c3, rfl, _⟩ := hp.len
  obtain ⟨zk, zn, zt, zr, za1, zn1, zc1, za2, zn2, zc2, za3, zn3, zc3, rfl⟩ := hks
  have HB := Lib.hid HB
  clear hf hl' hp hF hL hP hm hl hk
  generalize fe.length = n1 at *
  generalize le.length = n2 at *
  generalize pe.length = n3 at *
  show Calls _ _ _ _ fun e w' => e = .returned (.tuple #[.int .i64 (posP p k : Nat), .bool (hitP p k)]) ∧ Below w.heap.size w w'
  generalize posP p k = pos at *
  generalize hitP p k = hit at *
  have hb0 := Lib.hid (Below.alloc (Below.alloc (Below.refl w.heap.size w) (Nat.le_refl _) (.cells #[.int .i64 xk, .int .u64 n, .string t, .slice a1 n1 c1, .string r, .slice a2 n2 c2, .slice a3 n3 c3] 27)) (by simp) (.cells #[.int .i64 zk, .int .u64 zn, .string zt, .slice za1 zn1 zc1, .string zr, .slice za2 zn2 zc2, .slice za3 zn3 zc3] 27))
  go_enter Tryd.func71, Tryd.ntmps71
  go_wp2_with fail
  refine (HB.out _ hb0.out).mono ?_
  rintro e w' ⟨rfl, hb⟩
  go_wp2_with fail
  go_ret2
  exact ⟨rfl, hb0.out.trans (hb.mono hb0.out.size)⟩

end Go.Proofs.YtkldcjlkeblggaaDoor
