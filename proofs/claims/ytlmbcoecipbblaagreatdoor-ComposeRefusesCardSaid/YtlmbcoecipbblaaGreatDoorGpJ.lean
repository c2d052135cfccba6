/- place and spot, walked. value.Get and value.Find, walked. -/
import Derived.Test.YtlmbcoecipbblaaGreatDoorVSplice
import Derived.Test.YtlmbcoecipbblaaGreatDoorGpI
set_option maxRecDepth 100000
set_option maxHeartbeats 4000000
set_option linter.unusedVariables false
set_option linter.unusedSimpArgs false
namespace Go.Proofs.YtlmbcoecipbblaaGreatDoor
open Go.RowKit
open Val (V cmp ocmp cF posF hitF cP posP hitP get find withV putV putP spl one MonoN v0)
theorem place1_any (m num : Int) (x : V) (xc : List Value) (w : World) (hx : VR (frag w) x xc) :
  Calls Tryz.prog 117 #[.agg (.int .i64 m :: xc).toArray, .int .i64 num] w fun e w' => e = .returned (.int .i64 (ocmp m num)) ∧ Below w.heap.size w w' := by
 obtain ⟨xk, xn, xt, xr, xa1, xn1, xc1, xa2, xn2, xc2, xa3, xn3, xc3, rfl⟩ := hx.shape
 clear hx
 go_enter Tryz.func117, Tryz.ntmps117
 go_wp2_with (go_at_call 52; refine (cmp_int _ _ _).mono ?_; rintro e w' ⟨rfl, rfl⟩)
 go_ret
 exact ⟨rfl, (Below.refl _ _).alloc (Nat.le_refl _) _⟩
theorem spot1_any (m x k : V) (mc xc kc : List Value) (w : World) (hm : VR (frag w) m mc) (hx : VR (frag w) x xc) (hk : VR (frag w) k kc) :
  Calls Tryz.prog 121 #[.agg (mc ++ xc).toArray, .agg kc.toArray] w fun e w' => e = .returned (.int .i64 (cmp m k)) ∧ Below w.heap.size w w' := by
 have HI := Yq (fun (wx : World) (hb : Below w.heap.size w wx) => compare_any m k mc kc wx (hm.mono (below_le hb)) (hk.mono (below_le hb)))
 obtain ⟨xk, xn, xt, xr, xa1, xn1, xc1, xa2, xn2, xc2, xa3, xn3, xc3, rfl⟩ := hx.shape
 obtain ⟨yk, yn, yt, yr, ya1, yn1, yc1, ya2, yn2, yc2, ya3, yn3, yc3, rfl⟩ := hm.shape
 obtain ⟨zk, zn, zt, zr, za1, zn1, zc1, za2, zn2, zc2, za3, zn3, zc3, rfl⟩ := hk.shape
 clear hx hm hk
 simp only [List.cons_append, List.nil_append]
 have hb0 := Yq (Below.alloc (Below.alloc (Below.refl w.heap.size w) (Nat.le_refl _) (.cells #[.int .i64 yk, .int .u64 yn, .string yt, .slice ya1 yn1 yc1, .string yr, .slice ya2 yn2 yc2, .slice ya3 yn3 yc3, .int .i64 xk, .int .u64 xn, .string xt, .slice xa1 xn1 xc1, .string xr, .slice xa2 xn2 xc2, .slice xa3 xn3 xc3] 97)) (by simp) (.cells #[.int .i64 zk, .int .u64 zn, .string zt, .slice za1 zn1 zc1, .string zr, .slice za2 zn2 zc2, .slice za3 zn3 zc3] 27))
 go_enter Tryz.func121, Tryz.ntmps121
 go_wp2_with fail
 refine (HI.out _ hb0.out).mono ?_
 rintro e w' ⟨rfl, hb⟩
 go_wp2_with fail
 go_ret
 exact ⟨rfl, hb0.out.trans (hb.mono hb0.out.size)⟩
theorem place_any (x : V) (num : Int) (xc : List Value) (w : World) (hx : VR (frag w) x xc) (hm : MonoN (cF x.fields num) x.fields.length) (hl : x.fields.length < 1000000) :
  Calls Tryz.prog 107 #[.agg xc.toArray, .int .i64 num] w fun e w' => e = .returned (.tuple #[.int .i64 (posF x.fields num : Nat), .bool (hitF x.fields num)]) ∧ Below w.heap.size w w' := by
 obtain ⟨k, n, t, f, r, l, p⟩ := x
 rw [VR] at hx
 obtain ⟨fv, lv, pv, fe, le, pe, rfl, _, ⟨hf, hl', hp⟩, hF, hL, hP⟩ := hx
 have HB : ∀ wx, Below w.heap.size w wx → Calls Tryz.prog 116 #[fv, .int .i64 num, .func (.func 117) #[] #[]] wx fun e w' => e = .returned (.tuple #[.int .i64 (posF f num : Nat), .bool (hitF f num)]) ∧ Below wx.heap.size wx w' := by
  intro wx hb
  have := binsearch_fld fe num (cF f num) fv 117 wx (hf.mono (below_le hb)) hF.shapes (enters_of Tryz.func117 (by kernel_rfl) rfl) (by rw [hF.len]; exact hm) (by rw [hF.len]; exact Nat.lt_trans hl (by decide)) ?_
  ·rw [hF.len] at this; exact this
  ·intro i h1 wy hb2
   have h1' : i < f.length := by rw [← hF.len]; exact h1
   obtain ⟨xc, e1, r1⟩ := hF.at h1' h1
   rw [e1]
   have e2 : cF f num i = ocmp f[i].1 num := by unfold cF; rw [List.getD_eq_getElem?_getD, List.getElem?_eq_getElem h1', Option.getD_some]
   rw [e2]
   exact place1_any _ _ _ xc wy (r1.mono ((below_le hb).trans (below_le hb2)))
 obtain ⟨a1, c1, rfl, _⟩ := hf.len
 obtain ⟨a2, c2, rfl, _⟩ := hl'.len
 obtain ⟨a3, c3, rfl, _⟩ := hp.len
 have HB := Yq HB
 clear hf hl' hp hF hL hP hm hl
 generalize fe.length = n1 at *
 generalize le.length = n2 at *
 generalize pe.length = n3 at *
 show Calls _ _ _ _ fun e w' => e = .returned (.tuple #[.int .i64 (posF f num : Nat), .bool (hitF f num)]) ∧ Below w.heap.size w w'
 generalize posF f num = pos at *
 generalize hitF f num = hit at *
 have hb0 := Yq ((Below.refl w.heap.size w).alloc (Nat.le_refl _) (.cells #[.int .i64 k, .int .u64 n, .string t, .slice a1 n1 c1, .string r, .slice a2 n2 c2, .slice a3 n3 c3] 27))
 go_enter Tryz.func107, Tryz.ntmps107
 go_wp2_with fail
 refine (HB.out _ hb0.out).mono ?_
 rintro e w' ⟨rfl, hb⟩
 go_wp2_with fail
 go_ret2
 exact ⟨rfl, hb0.out.trans (hb.mono hb0.out.size)⟩
theorem spot_any (x k : V) (xc kc : List Value) (w : World) (hx : VR (frag w) x xc) (hk : VR (frag w) k kc) (hm : MonoN (cP x.pairs k) x.pairs.length) (hl : x.pairs.length < 1000000) :
  Calls Tryz.prog 114 #[.agg xc.toArray, .agg kc.toArray] w fun e w' => e = .returned (.tuple #[.int .i64 (posP x.pairs k : Nat), .bool (hitP x.pairs k)]) ∧ Below w.heap.size w w' := by
 obtain ⟨xk, n, t, f, r, l, p⟩ := x
 rw [VR] at hx
 obtain ⟨fv, lv, pv, fe, le, pe, rfl, _, ⟨hf, hl', hp⟩, hF, hL, hP⟩ := hx
 have hks := hk.shape
 have HB : ∀ wx, Below w.heap.size w wx → Calls Tryz.prog 120 #[pv, .agg kc.toArray, .func (.func 121) #[] #[]] wx fun e w' => e = .returned (.tuple #[.int .i64 (posP p k : Nat), .bool (hitP p k)]) ∧ Below wx.heap.size wx w' := by
  intro wx hb
  obtain ⟨zk, zn, zt, zr, za1, zn1, zc1, za2, zn2, zc2, za3, zn3, zc3, hz⟩ := hks
  have h0 : ∀ (i : Nat) (h1 : i < pe.length) (wy : World), Below wx.heap.size wx wy → Calls Tryz.prog 121 #[.agg pe[i].toArray, .agg kc.toArray] wy fun e w' => e = .returned (.int .i64 (cP p k i)) ∧ Below wy.heap.size wy w' := by
   intro i h1 wy hb2
   have h1' : i < p.length := by rw [← hP.len]; exact h1
   obtain ⟨mc, xc, e1, r1, r2⟩ := hP.at h1' h1
   rw [e1]
   have e2 : cP p k i = cmp p[i].1 k := by unfold cP; rw [List.getD_eq_getElem?_getD, List.getElem?_eq_getElem h1', Option.getD_some]
   rw [e2]
   have hle := (below_le hb).trans (below_le hb2)
   exact spot1_any _ _ _ mc xc kc wy (r1.mono hle) (r2.mono hle) (hk.mono hle)
  rw [hz] at h0 ⊢
  have := binsearch_par pe zk zn zt zr za1 zn1 zc1 za2 zn2 zc2 za3 zn3 zc3 (cP p k) pv 121 wx (hp.mono (below_le hb)) hP.shapes (enters_of Tryz.func121 (by kernel_rfl) rfl) (by rw [hP.len]; exact hm) (by rw [hP.len]; exact Nat.lt_trans hl (by decide)) h0
  rw [hP.len] at this; exact this
 obtain ⟨a1, c1, rfl, _⟩ := hf.len
 obtain ⟨a2, c2, rfl, _⟩ := hl'.len
 obtain ⟨a3, c3, rfl, _⟩ := hp.len
 obtain ⟨zk, zn, zt, zr, za1, zn1, zc1, za2, zn2, zc2, za3, zn3, zc3, rfl⟩ := hks
 have HB := Yq HB
 clear hf hl' hp hF hL hP hm hl hk
 generalize fe.length = n1 at *
 generalize le.length = n2 at *
 generalize pe.length = n3 at *
 show Calls _ _ _ _ fun e w' => e = .returned (.tuple #[.int .i64 (posP p k : Nat), .bool (hitP p k)]) ∧ Below w.heap.size w w'
 generalize posP p k = pos at *
 generalize hitP p k = hit at *
 have hb0 := Yq (Below.alloc (Below.alloc (Below.refl w.heap.size w) (Nat.le_refl _) (.cells #[.int .i64 xk, .int .u64 n, .string t, .slice a1 n1 c1, .string r, .slice a2 n2 c2, .slice a3 n3 c3] 27)) (by simp) (.cells #[.int .i64 zk, .int .u64 zn, .string zt, .slice za1 zn1 zc1, .string zr, .slice za2 zn2 zc2, .slice za3 zn3 zc3] 27))
 go_enter Tryz.func114, Tryz.ntmps114
 go_wp2_with fail
 refine (HB.out _ hb0.out).mono ?_
 rintro e w' ⟨rfl, hb⟩
 go_wp2_with fail
 go_ret2
 exact ⟨rfl, hb0.out.trans (hb.mono hb0.out.size)⟩
def RetV (E : List (Option Nat)) (w : World) (x : V) (e : Ending) (w' : World) : Prop := ∃ xc, e = .returned (.agg xc.toArray) ∧ VR (fragE w' E) x xc ∧ Below w.heap.size w w'
theorem VR.zero (h : Frag) : VR h Val.v0 [.int .i64 0, .int .u64 0, .string ⟨#[]⟩, .slice none 0 0, .string ⟨#[]⟩, .slice none 0 0, .slice none 0 0] := by
 unfold Val.v0
 rw [VR]
 exact ⟨_, _, _, [], [], [], rfl, ⟨Nat.zero_le _, Nat.zero_le _⟩, ⟨FlatC.nil _ _, FlatC.nil _ _, FlatC.nil _ _⟩, by rw [FsR], by rw [LsR], by rw [PsR]⟩
theorem get_any (x : V) (num : Int) (xc : List Value) (w : World) (E : List (Option Nat)) (hE : ∀ k, some k ∈ E → k < w.heap.size) (hx : VR (fragE w E) x xc) (hm : MonoN (cF x.fields num) x.fields.length) (hl : x.fields.length < 1000000) :
  Calls Tryz.prog 99 #[.agg xc.toArray, .int .i64 num] w (RetV E w (get x num)) := by
 have HP := Yq (fun (wx : World) (hb : Below w.heap.size w wx) => place_any x num xc wx ((hx.mono (fragE_le w E)).mono (below_le hb)) hm hl)
 obtain ⟨k, n, t, f, r, l, p⟩ := x
 rw [VR] at hx
 obtain ⟨fv, lv, pv, fe, le, pe, rfl, _, ⟨hf, hl', hp⟩, hF, hL, hP⟩ := hx
 have hfe := hF.len
 have Hf := Yq (hf.mono (fragE_le w E)); have HF := Yq hF
 obtain ⟨a1, c1, rfl, g1, g2, _⟩ := hf.len
 obtain ⟨a2, c2, rfl, _⟩ := hl'.len
 obtain ⟨a3, c3, rfl, _⟩ := hp.len
 have hg : get (.mk k n t f r l p) num = if k = 3 ∧ hitF f num = true then (f.getD (posF f num) (0, v0)).2 else v0 := rfl
 have hl : f.length < 1000000 := hl
 have hhit : hitF f num = true → posF f num < f.length := fun h => by unfold hitF at h; simp at h; exact h.1
 rw [hg]
 have HP2 : Hid (∀ (wx : World), Below w.heap.size w wx → Calls Tryz.prog 107 #[.agg #[.int .i64 k, .int .u64 n, .string t, .slice a1 fe.length c1, .string r, .slice a2 le.length c2, .slice a3 pe.length c3], .int .i64 num] wx fun e w' => e = .returned (.tuple #[.int .i64 (posF f num : Nat), .bool (hitF f num)]) ∧ Below wx.heap.size wx w') := HP.out
 clear HP hf hl' hp hF hL hP hm hg
 generalize posF f num = pos at *
 generalize hitF f num = hit at *
 unfold maxLen at g2
 rw [hfe] at g1 HP2 Hf ⊢
 generalize le.length = n2 at *
 generalize pe.length = n3 at *
 obtain ⟨n1, hn1⟩ : ∃ n1, n1 = f.length := ⟨_, rfl⟩
 rw [← hn1] at g1 HP2 Hf hhit hl ⊢
 have Hn1 := Yq hn1; clear hn1
 have Hhit := Yq hhit
 have Hfe := Yq hfe
 clear hhit hfe
 have hcell : ∀ w1 : World, Below (w.heap.size + 2) ((w.alloc (.cells #[.int .i64 k, .int .u64 n, .string t, .slice a1 n1 c1, .string r, .slice a2 n2 c2, .slice a3 n3 c3] 27)).alloc (.cells #[.int .i64 0, .int .u64 0, .string ⟨#[]⟩, .slice none 0 0, .string ⟨#[]⟩, .slice none 0 0, .slice none 0 0] 27)) w1 → w1.cell? ⟨w.heap.size, 0, none⟩ = some (.int .i64 k) ∧ w1.cell? ⟨w.heap.size, 1, none⟩ = some (.int .u64 n) ∧ w1.cell? ⟨w.heap.size, 2, none⟩ = some (.string t) ∧ w1.cell? ⟨w.heap.size, 3, none⟩ = some (.slice a1 n1 c1) ∧ w1.cell? ⟨w.heap.size, 4, none⟩ = some (.string r) ∧ w1.cell? ⟨w.heap.size, 5, none⟩ = some (.slice a2 n2 c2) ∧ w1.cell? ⟨w.heap.size, 6, none⟩ = some (.slice a3 n3 c3) ∧ w1.cell? ⟨w.heap.size + 1, 0, none⟩ = some (.int .i64 0) ∧ w1.cell? ⟨w.heap.size + 1, 1, none⟩ = some (.int .u64 0) ∧ w1.cell? ⟨w.heap.size + 1, 2, none⟩ = some (.string ⟨#[]⟩) ∧ w1.cell? ⟨w.heap.size + 1, 3, none⟩ = some (.slice none 0 0) ∧ w1.cell? ⟨w.heap.size + 1, 4, none⟩ = some (.string ⟨#[]⟩) ∧ w1.cell? ⟨w.heap.size + 1, 5, none⟩ = some (.slice none 0 0) ∧ w1.cell? ⟨w.heap.size + 1, 6, none⟩ = some (.slice none 0 0) ∧ w1.frozen? ⟨w.heap.size + 1, 0, none⟩ = false ∧ w1.frozen? ⟨w.heap.size + 1, 1, none⟩ = false ∧ w1.frozen? ⟨w.heap.size + 1, 2, none⟩ = false ∧ w1.frozen? ⟨w.heap.size + 1, 3, none⟩ = false ∧ w1.frozen? ⟨w.heap.size + 1, 4, none⟩ = false ∧ w1.frozen? ⟨w.heap.size + 1, 5, none⟩ = false ∧ w1.frozen? ⟨w.heap.size + 1, 6, none⟩ = false := by
  intro w1 hb
  refine ⟨?_, ?_, ?_, ?_, ?_, ?_, ?_, ?_, ?_, ?_, ?_, ?_, ?_, ?_, ?_, ?_, ?_, ?_, ?_, ?_, ?_⟩
  ·rw [hb.cell (by dsimp only; omega), World.cell?_alloc_past _ _ _ (by simp only [World.size_alloc]; omega), World.cell?_alloc_at _ _ _ _ rfl]; rfl
  ·rw [hb.cell (by dsimp only; omega), World.cell?_alloc_past _ _ _ (by simp only [World.size_alloc]; omega), World.cell?_alloc_at _ _ _ _ rfl]; rfl
  ·rw [hb.cell (by dsimp only; omega), World.cell?_alloc_past _ _ _ (by simp only [World.size_alloc]; omega), World.cell?_alloc_at _ _ _ _ rfl]; rfl
  ·rw [hb.cell (by dsimp only; omega), World.cell?_alloc_past _ _ _ (by simp only [World.size_alloc]; omega), World.cell?_alloc_at _ _ _ _ rfl]; rfl
  ·rw [hb.cell (by dsimp only; omega), World.cell?_alloc_past _ _ _ (by simp only [World.size_alloc]; omega), World.cell?_alloc_at _ _ _ _ rfl]; rfl
  ·rw [hb.cell (by dsimp only; omega), World.cell?_alloc_past _ _ _ (by simp only [World.size_alloc]; omega), World.cell?_alloc_at _ _ _ _ rfl]; rfl
  ·rw [hb.cell (by dsimp only; omega), World.cell?_alloc_past _ _ _ (by simp only [World.size_alloc]; omega), World.cell?_alloc_at _ _ _ _ rfl]; rfl
  ·rw [hb.cell (by dsimp only; omega), World.cell?_alloc_at _ _ _ _ (by simp only [World.size_alloc])]; rfl
  ·rw [hb.cell (by dsimp only; omega), World.cell?_alloc_at _ _ _ _ (by simp only [World.size_alloc])]; rfl
  ·rw [hb.cell (by dsimp only; omega), World.cell?_alloc_at _ _ _ _ (by simp only [World.size_alloc])]; rfl
  ·rw [hb.cell (by dsimp only; omega), World.cell?_alloc_at _ _ _ _ (by simp only [World.size_alloc])]; rfl
  ·rw [hb.cell (by dsimp only; omega), World.cell?_alloc_at _ _ _ _ (by simp only [World.size_alloc])]; rfl
  ·rw [hb.cell (by dsimp only; omega), World.cell?_alloc_at _ _ _ _ (by simp only [World.size_alloc])]; rfl
  ·rw [hb.cell (by dsimp only; omega), World.cell?_alloc_at _ _ _ _ (by simp only [World.size_alloc])]; rfl
  ·rw [hb.frozen (by dsimp only; omega), World.frozen?_alloc_at _ _ _ _ (by simp only [World.size_alloc])]
  ·rw [hb.frozen (by dsimp only; omega), World.frozen?_alloc_at _ _ _ _ (by simp only [World.size_alloc])]
  ·rw [hb.frozen (by dsimp only; omega), World.frozen?_alloc_at _ _ _ _ (by simp only [World.size_alloc])]
  ·rw [hb.frozen (by dsimp only; omega), World.frozen?_alloc_at _ _ _ _ (by simp only [World.size_alloc])]
  ·rw [hb.frozen (by dsimp only; omega), World.frozen?_alloc_at _ _ _ _ (by simp only [World.size_alloc])]
  ·rw [hb.frozen (by dsimp only; omega), World.frozen?_alloc_at _ _ _ _ (by simp only [World.size_alloc])]
  ·rw [hb.frozen (by dsimp only; omega), World.frozen?_alloc_at _ _ _ _ (by simp only [World.size_alloc])]
 have Hcell := Yq hcell; clear hcell
 have hb0 := Yq (Below.alloc (Below.alloc (Below.refl w.heap.size w) (Nat.le_refl _) (.cells #[.int .i64 k, .int .u64 n, .string t, .slice a1 n1 c1, .string r, .slice a2 n2 c2, .slice a3 n3 c3] 27)) (by simp) (.cells #[.int .i64 0, .int .u64 0, .string ⟨#[]⟩, .slice none 0 0, .string ⟨#[]⟩, .slice none 0 0, .slice none 0 0] 27))
 by_cases hk : k = 3
 ·subst hk
  cases hit with
  | true =>
   rw [if_pos ⟨rfl, rfl⟩]
   have hpf : pos < f.length := by rw [← Hn1.out]; exact Hhit.out rfl
   have hpe : pos < fe.length := by rw [Hfe.out]; exact hpf
   rw [List.getD_eq_getElem?_getD, List.getElem?_eq_getElem hpf, Option.getD_some]
   obtain ⟨b5, o5, hb5, hidx, hcl⟩ := FlatC.at (n := n1) (cap := c1) (a := a1) Hf.out (by decide) (i := pos) hpe Tryz.underlying23 sizeFld
   obtain ⟨xc, ex, rx⟩ := HF.out.at hpf hpe
   have Hrx := Yq rx
   obtain ⟨xk, xn, xt, xr, xa1, xn1, xc1, xa2, xn2, xc2, xa3, xn3, xc3, rfl⟩ := rx.shape
   rw [ex] at hcl
   have m0 := hcl 0 _ rfl
   have m1 := hcl 1 _ rfl
   have m2 := hcl 2 _ rfl
   have m3 := hcl 3 _ rfl
   have m4 := hcl 4 _ rfl
   have m5 := hcl 5 _ rfl
   have m6 := hcl 6 _ rfl
   have m7 := hcl 7 _ rfl
   rw [Nat.add_zero] at m0
   have hpn : pos < n1 := by rw [Hn1.out]; exact hpf
   clear hcl ex rx
   generalize f[pos].2 = y at *
   generalize f[pos].1 = y1 at *
   clear hpf hpe
   go_enter Tryz.func99, Tryz.ntmps99
   go_wp2_with fail
   refine (HP2.out _ hb0.out).mono ?_
   rintro e w1 ⟨rfl, hb⟩
   have hbw := hb0.out.trans (hb.mono hb0.out.size)
   obtain ⟨q0, q1, q2, q3, q4, q5, q6, q7, q8, q9, q10, q11, q12, q13, q14, q15, q16, q17, q18, q19, q20⟩ := Hcell.out w1 (by simpa using hb)
   have m0' := (hbw.cell (p := ⟨b5, o5, none⟩) hb5).trans m0
   have m1' := (hbw.cell (p := ⟨b5, o5 + 1, none⟩) hb5).trans m1
   have m2' := (hbw.cell (p := ⟨b5, o5 + 2, none⟩) hb5).trans m2
   have m3' := (hbw.cell (p := ⟨b5, o5 + 3, none⟩) hb5).trans m3
   have m4' := (hbw.cell (p := ⟨b5, o5 + 4, none⟩) hb5).trans m4
   have m5' := (hbw.cell (p := ⟨b5, o5 + 5, none⟩) hb5).trans m5
   have m6' := (hbw.cell (p := ⟨b5, o5 + 6, none⟩) hb5).trans m6
   have m7' := (hbw.cell (p := ⟨b5, o5 + 7, none⟩) hb5).trans m7
   have Hbw := Yq hbw
   have hsz1 : w.heap.size + 1 < w1.heap.size := by have := hb.size; simp at this; omega
   clear m0 m1 m2 m3 m4 m5 m6 m7 hb hbw
   go_wp2_with fail
   exact bodyPost_ret (v := .agg #[.int .i64 xk, .int .u64 xn, .string xt, .slice xa1 xn1 xc1, .string xr, .slice xa2 xn2 xc2, .slice xa3 xn3 xc3]) (by simp [results, Tryz.results99, go_sem, *]) rfl ⟨_, rfl, Hrx.out.mono (belowE (E' := E) (Below.setCell (Below.setCell (Below.setCell (Below.setCell (Below.setCell (Below.setCell (Below.setCell Hbw.out (Nat.le_succ _) _) (Nat.le_succ _) _) (Nat.le_succ _) _) (Nat.le_succ _) _) (Nat.le_succ _) _) (Nat.le_succ _) _) (Nat.le_succ _) _) (fun _ h => .inl h)), (Below.setCell (Below.setCell (Below.setCell (Below.setCell (Below.setCell (Below.setCell (Below.setCell Hbw.out (Nat.le_succ _) _) (Nat.le_succ _) _) (Nat.le_succ _) _) (Nat.le_succ _) _) (Nat.le_succ _) _) (Nat.le_succ _) _) (Nat.le_succ _) _)⟩
  | false =>
   rw [if_neg (by simp)]
   go_enter Tryz.func99, Tryz.ntmps99
   go_wp2_with fail
   refine (HP2.out _ hb0.out).mono ?_
   rintro e w1 ⟨rfl, hb⟩
   have Hbw := Yq (hb0.out.trans (hb.mono hb0.out.size))
   obtain ⟨q0, q1, q2, q3, q4, q5, q6, q7, q8, q9, q10, q11, q12, q13, q14, q15, q16, q17, q18, q19, q20⟩ := Hcell.out w1 (by simpa using hb)
   have hsz1 : w.heap.size + 1 < w1.heap.size := by have := hb.size; simp at this; omega
   clear hb
   go_wp2_with fail
   exact bodyPost_ret (v := .agg #[.int .i64 0, .int .u64 0, .string ⟨#[]⟩, .slice none 0 0, .string ⟨#[]⟩, .slice none 0 0, .slice none 0 0]) (by simp [results, Tryz.results99, go_sem, *]) rfl ⟨_, rfl, VR.zero _, (Below.setCell (Below.setCell (Below.setCell (Below.setCell (Below.setCell (Below.setCell (Below.setCell Hbw.out (Nat.le_succ _) _) (Nat.le_succ _) _) (Nat.le_succ _) _) (Nat.le_succ _) _) (Nat.le_succ _) _) (Nat.le_succ _) _) (Nat.le_succ _) _)⟩
 ·rw [if_neg (fun h => hk h.1)]
  have hk' : (k != 3) = true := by simpa using hk
  clear hk
  go_enter Tryz.func99, Tryz.ntmps99
  go_wp2_with fail
  refine (HP2.out _ hb0.out).mono ?_
  rintro e w1 ⟨rfl, hb⟩
  have Hbw := Yq (hb0.out.trans (hb.mono hb0.out.size))
  obtain ⟨q0, q1, q2, q3, q4, q5, q6, q7, q8, q9, q10, q11, q12, q13, q14, q15, q16, q17, q18, q19, q20⟩ := Hcell.out w1 (by simpa using hb)
  have hsz1 : w.heap.size + 1 < w1.heap.size := by have := hb.size; simp at this; omega
  clear hb
  go_wp2_with fail
  exact bodyPost_ret (v := .agg #[.int .i64 0, .int .u64 0, .string ⟨#[]⟩, .slice none 0 0, .string ⟨#[]⟩, .slice none 0 0, .slice none 0 0]) (by simp [results, Tryz.results99, go_sem, *]) rfl ⟨_, rfl, VR.zero _, (Below.setCell (Below.setCell (Below.setCell (Below.setCell (Below.setCell (Below.setCell (Below.setCell Hbw.out (Nat.le_succ _) _) (Nat.le_succ _) _) (Nat.le_succ _) _) (Nat.le_succ _) _) (Nat.le_succ _) _) (Nat.le_succ _) _) (Nat.le_succ _) _)⟩
theorem find_any (x key : V) (xc kc : List Value) (w : World) (E : List (Option Nat)) (hE : ∀ k, some k ∈ E → k < w.heap.size) (hx : VR (fragE w E) x xc) (hkv : VR (frag w) key kc) (hm : MonoN (cP x.pairs key) x.pairs.length) (hl : x.pairs.length < 1000000) :
  Calls Tryz.prog 102 #[.agg xc.toArray, .agg kc.toArray] w (RetV E w (find x key)) := by
 have HP := Yq (fun (wx : World) (hb : Below w.heap.size w wx) => spot_any x key xc kc wx ((hx.mono (fragE_le w E)).mono (below_le hb)) (hkv.mono (below_le hb)) hm hl)
 obtain ⟨k, n, t, f, r, l, p⟩ := x
 rw [VR] at hx
 obtain ⟨fv, lv, pv, fe, le, pe, rfl, _, ⟨hf, hl', hp⟩, hF, hL, hP⟩ := hx
 obtain ⟨ck, cn, ct, cr, ca1, cn1, cc1, ca2, cn2, cc2, ca3, cn3, cc3, rfl⟩ := hkv.shape
 have hpe := hP.len
 have Hp := Yq (hp.mono (fragE_le w E)); have HPs := Yq hP
 obtain ⟨a1, c1, rfl, _⟩ := hf.len
 obtain ⟨a2, c2, rfl, _⟩ := hl'.len
 obtain ⟨a3, c3, rfl, g1, g2, _⟩ := hp.len
 have hg : find (.mk k n t f r l p) key = if k = 5 ∧ hitP p key = true then (p.getD (posP p key) (v0, v0)).2 else v0 := rfl
 have hl : p.length < 1000000 := hl
 have hhit : hitP p key = true → posP p key < p.length := fun h => by unfold hitP at h; simp at h; exact h.1
 rw [hg]
 have HP2 : Hid (∀ (wx : World), Below w.heap.size w wx → Calls Tryz.prog 114 #[.agg #[.int .i64 k, .int .u64 n, .string t, .slice a1 fe.length c1, .string r, .slice a2 le.length c2, .slice a3 pe.length c3], .agg #[.int .i64 ck, .int .u64 cn, .string ct, .slice ca1 cn1 cc1, .string cr, .slice ca2 cn2 cc2, .slice ca3 cn3 cc3]] wx fun e w' => e = .returned (.tuple #[.int .i64 (posP p key : Nat), .bool (hitP p key)]) ∧ Below wx.heap.size wx w') := HP.out
 clear HP hf hl' hp hF hL hP hm hg hkv
 generalize posP p key = pos at *
 generalize hitP p key = hit at *
 unfold maxLen at g2
 rw [hpe] at g1 HP2 Hp ⊢
 generalize fe.length = n1 at *
 generalize le.length = n2 at *
 obtain ⟨n3, hn3⟩ : ∃ n3, n3 = p.length := ⟨_, rfl⟩
 rw [← hn3] at g1 HP2 Hp hhit hl ⊢
 have Hn3 := Yq hn3; clear hn3
 have Hhit := Yq hhit
 have Hpe := Yq hpe
 clear hhit hpe
 have hcell : ∀ w1 : World, Below (w.heap.size + 3) (((w.alloc (.cells #[.int .i64 k, .int .u64 n, .string t, .slice a1 n1 c1, .string r, .slice a2 n2 c2, .slice a3 n3 c3] 27)).alloc (.cells #[.int .i64 ck, .int .u64 cn, .string ct, .slice ca1 cn1 cc1, .string cr, .slice ca2 cn2 cc2, .slice ca3 cn3 cc3] 27)).alloc (.cells #[.int .i64 0, .int .u64 0, .string ⟨#[]⟩, .slice none 0 0, .string ⟨#[]⟩, .slice none 0 0, .slice none 0 0] 27)) w1 → w1.cell? ⟨w.heap.size, 0, none⟩ = some (.int .i64 k) ∧ w1.cell? ⟨w.heap.size, 1, none⟩ = some (.int .u64 n) ∧ w1.cell? ⟨w.heap.size, 2, none⟩ = some (.string t) ∧ w1.cell? ⟨w.heap.size, 3, none⟩ = some (.slice a1 n1 c1) ∧ w1.cell? ⟨w.heap.size, 4, none⟩ = some (.string r) ∧ w1.cell? ⟨w.heap.size, 5, none⟩ = some (.slice a2 n2 c2) ∧ w1.cell? ⟨w.heap.size, 6, none⟩ = some (.slice a3 n3 c3) ∧ w1.cell? ⟨w.heap.size + 1 + 1, 0, none⟩ = some (.int .i64 0) ∧ w1.cell? ⟨w.heap.size + 1 + 1, 1, none⟩ = some (.int .u64 0) ∧ w1.cell? ⟨w.heap.size + 1 + 1, 2, none⟩ = some (.string ⟨#[]⟩) ∧ w1.cell? ⟨w.heap.size + 1 + 1, 3, none⟩ = some (.slice none 0 0) ∧ w1.cell? ⟨w.heap.size + 1 + 1, 4, none⟩ = some (.string ⟨#[]⟩) ∧ w1.cell? ⟨w.heap.size + 1 + 1, 5, none⟩ = some (.slice none 0 0) ∧ w1.cell? ⟨w.heap.size + 1 + 1, 6, none⟩ = some (.slice none 0 0) ∧ w1.frozen? ⟨w.heap.size + 1 + 1, 0, none⟩ = false ∧ w1.frozen? ⟨w.heap.size + 1 + 1, 1, none⟩ = false ∧ w1.frozen? ⟨w.heap.size + 1 + 1, 2, none⟩ = false ∧ w1.frozen? ⟨w.heap.size + 1 + 1, 3, none⟩ = false ∧ w1.frozen? ⟨w.heap.size + 1 + 1, 4, none⟩ = false ∧ w1.frozen? ⟨w.heap.size + 1 + 1, 5, none⟩ = false ∧ w1.frozen? ⟨w.heap.size + 1 + 1, 6, none⟩ = false := by
  intro w1 hb
  refine ⟨?_, ?_, ?_, ?_, ?_, ?_, ?_, ?_, ?_, ?_, ?_, ?_, ?_, ?_, ?_, ?_, ?_, ?_, ?_, ?_, ?_⟩
  ·rw [hb.cell (by dsimp only; omega), World.cell?_alloc_past _ _ _ (by simp only [World.size_alloc]; omega), World.cell?_alloc_past _ _ _ (by simp only [World.size_alloc]; omega), World.cell?_alloc_at _ _ _ _ rfl]; rfl
  ·rw [hb.cell (by dsimp only; omega), World.cell?_alloc_past _ _ _ (by simp only [World.size_alloc]; omega), World.cell?_alloc_past _ _ _ (by simp only [World.size_alloc]; omega), World.cell?_alloc_at _ _ _ _ rfl]; rfl
  ·rw [hb.cell (by dsimp only; omega), World.cell?_alloc_past _ _ _ (by simp only [World.size_alloc]; omega), World.cell?_alloc_past _ _ _ (by simp only [World.size_alloc]; omega), World.cell?_alloc_at _ _ _ _ rfl]; rfl
  ·rw [hb.cell (by dsimp only; omega), World.cell?_alloc_past _ _ _ (by simp only [World.size_alloc]; omega), World.cell?_alloc_past _ _ _ (by simp only [World.size_alloc]; omega), World.cell?_alloc_at _ _ _ _ rfl]; rfl
  ·rw [hb.cell (by dsimp only; omega), World.cell?_alloc_past _ _ _ (by simp only [World.size_alloc]; omega), World.cell?_alloc_past _ _ _ (by simp only [World.size_alloc]; omega), World.cell?_alloc_at _ _ _ _ rfl]; rfl
  ·rw [hb.cell (by dsimp only; omega), World.cell?_alloc_past _ _ _ (by simp only [World.size_alloc]; omega), World.cell?_alloc_past _ _ _ (by simp only [World.size_alloc]; omega), World.cell?_alloc_at _ _ _ _ rfl]; rfl
  ·rw [hb.cell (by dsimp only; omega), World.cell?_alloc_past _ _ _ (by simp only [World.size_alloc]; omega), World.cell?_alloc_past _ _ _ (by simp only [World.size_alloc]; omega), World.cell?_alloc_at _ _ _ _ rfl]; rfl
  ·rw [hb.cell (by dsimp only; omega), World.cell?_alloc_at _ _ _ _ (by simp only [World.size_alloc])]; rfl
  ·rw [hb.cell (by dsimp only; omega), World.cell?_alloc_at _ _ _ _ (by simp only [World.size_alloc])]; rfl
  ·rw [hb.cell (by dsimp only; omega), World.cell?_alloc_at _ _ _ _ (by simp only [World.size_alloc])]; rfl
  ·rw [hb.cell (by dsimp only; omega), World.cell?_alloc_at _ _ _ _ (by simp only [World.size_alloc])]; rfl
  ·rw [hb.cell (by dsimp only; omega), World.cell?_alloc_at _ _ _ _ (by simp only [World.size_alloc])]; rfl
  ·rw [hb.cell (by dsimp only; omega), World.cell?_alloc_at _ _ _ _ (by simp only [World.size_alloc])]; rfl
  ·rw [hb.cell (by dsimp only; omega), World.cell?_alloc_at _ _ _ _ (by simp only [World.size_alloc])]; rfl
  ·rw [hb.frozen (by dsimp only; omega), World.frozen?_alloc_at _ _ _ _ (by simp only [World.size_alloc])]
  ·rw [hb.frozen (by dsimp only; omega), World.frozen?_alloc_at _ _ _ _ (by simp only [World.size_alloc])]
  ·rw [hb.frozen (by dsimp only; omega), World.frozen?_alloc_at _ _ _ _ (by simp only [World.size_alloc])]
  ·rw [hb.frozen (by dsimp only; omega), World.frozen?_alloc_at _ _ _ _ (by simp only [World.size_alloc])]
  ·rw [hb.frozen (by dsimp only; omega), World.frozen?_alloc_at _ _ _ _ (by simp only [World.size_alloc])]
  ·rw [hb.frozen (by dsimp only; omega), World.frozen?_alloc_at _ _ _ _ (by simp only [World.size_alloc])]
  ·rw [hb.frozen (by dsimp only; omega), World.frozen?_alloc_at _ _ _ _ (by simp only [World.size_alloc])]
 have Hcell := Yq hcell; clear hcell
 have hb0 := Yq (Below.alloc (Below.alloc (Below.alloc (Below.refl w.heap.size w) (Nat.le_refl _) (.cells #[.int .i64 k, .int .u64 n, .string t, .slice a1 n1 c1, .string r, .slice a2 n2 c2, .slice a3 n3 c3] 27)) (by simp) (.cells #[.int .i64 ck, .int .u64 cn, .string ct, .slice ca1 cn1 cc1, .string cr, .slice ca2 cn2 cc2, .slice ca3 cn3 cc3] 27)) (by simp; omega) (.cells #[.int .i64 0, .int .u64 0, .string ⟨#[]⟩, .slice none 0 0, .string ⟨#[]⟩, .slice none 0 0, .slice none 0 0] 27))
 by_cases hk : k = 5
 ·subst hk
  cases hit with
  | true =>
   rw [if_pos ⟨rfl, rfl⟩]
   have hpf : pos < p.length := by rw [← Hn3.out]; exact Hhit.out rfl
   have hpp : pos < pe.length := by rw [Hpe.out]; exact hpf
   rw [List.getD_eq_getElem?_getD, List.getElem?_eq_getElem hpf, Option.getD_some]
   obtain ⟨b5, o5, hb5, hidx, hcl⟩ := FlatC.at (n := n3) (cap := c3) (a := a3) Hp.out (by decide) (i := pos) hpp Tryz.underlying25 sizePar
   obtain ⟨yc, xc, ex, ry, rx⟩ := HPs.out.at hpf hpp
   have Hrx := Yq rx
   obtain ⟨xk, xn, xt, xr, xa1, xn1, xc1, xa2, xn2, xc2, xa3, xn3, xc3, rfl⟩ := rx.shape
   obtain ⟨yk, yn, yt, yr, ya1, yn1, yc1, ya2, yn2, yc2, ya3, yn3, yc3, rfl⟩ := ry.shape
   rw [ex] at hcl
   have m0 := hcl 0 _ rfl
   have m1 := hcl 1 _ rfl
   have m2 := hcl 2 _ rfl
   have m3 := hcl 3 _ rfl
   have m4 := hcl 4 _ rfl
   have m5 := hcl 5 _ rfl
   have m6 := hcl 6 _ rfl
   have m7 := hcl 7 _ rfl
   have m8 := hcl 8 _ rfl
   have m9 := hcl 9 _ rfl
   have m10 := hcl 10 _ rfl
   have m11 := hcl 11 _ rfl
   have m12 := hcl 12 _ rfl
   have m13 := hcl 13 _ rfl
   rw [Nat.add_zero] at m0
   have hpn : pos < n3 := by rw [Hn3.out]; exact hpf
   clear hcl ex rx ry
   generalize p[pos].2 = y at *
   generalize p[pos].1 = y1 at *
   clear hpf hpp
   go_enter Tryz.func102, Tryz.ntmps102
   go_wp2_with fail
   refine (HP2.out _ hb0.out).mono ?_
   rintro e w1 ⟨rfl, hb⟩
   have hbw := hb0.out.trans (hb.mono hb0.out.size)
   obtain ⟨q0, q1, q2, q3, q4, q5, q6, q7, q8, q9, q10, q11, q12, q13, q14, q15, q16, q17, q18, q19, q20⟩ := Hcell.out w1 (by simpa using hb)
   have m0' := (hbw.cell (p := ⟨b5, o5, none⟩) hb5).trans m0
   have m1' := (hbw.cell (p := ⟨b5, o5 + 1, none⟩) hb5).trans m1
   have m2' := (hbw.cell (p := ⟨b5, o5 + 2, none⟩) hb5).trans m2
   have m3' := (hbw.cell (p := ⟨b5, o5 + 3, none⟩) hb5).trans m3
   have m4' := (hbw.cell (p := ⟨b5, o5 + 4, none⟩) hb5).trans m4
   have m5' := (hbw.cell (p := ⟨b5, o5 + 5, none⟩) hb5).trans m5
   have m6' := (hbw.cell (p := ⟨b5, o5 + 6, none⟩) hb5).trans m6
   have m7' := (hbw.cell (p := ⟨b5, o5 + 7, none⟩) hb5).trans m7
   have m8' := (hbw.cell (p := ⟨b5, o5 + 8, none⟩) hb5).trans m8
   have m9' := (hbw.cell (p := ⟨b5, o5 + 9, none⟩) hb5).trans m9
   have m10' := (hbw.cell (p := ⟨b5, o5 + 10, none⟩) hb5).trans m10
   have m11' := (hbw.cell (p := ⟨b5, o5 + 11, none⟩) hb5).trans m11
   have m12' := (hbw.cell (p := ⟨b5, o5 + 12, none⟩) hb5).trans m12
   have m13' := (hbw.cell (p := ⟨b5, o5 + 13, none⟩) hb5).trans m13
   have Hbw := Yq hbw
   have hsz1 : w.heap.size + 2 < w1.heap.size := by have := hb.size; simp at this; omega
   clear m0 m1 m2 m3 m4 m5 m6 m7 m8 m9 m10 m11 m12 m13 hb hbw
   go_wp2_with fail
   exact bodyPost_ret (v := .agg #[.int .i64 xk, .int .u64 xn, .string xt, .slice xa1 xn1 xc1, .string xr, .slice xa2 xn2 xc2, .slice xa3 xn3 xc3]) (by simp [results, Tryz.results102, go_sem, *]) rfl ⟨_, rfl, Hrx.out.mono (belowE (E' := E) (Below.setCell (Below.setCell (Below.setCell (Below.setCell (Below.setCell (Below.setCell (Below.setCell Hbw.out (by show w.heap.size ≤ w.heap.size + 1 + 1; omega) _) (by show w.heap.size ≤ w.heap.size + 1 + 1; omega) _) (by show w.heap.size ≤ w.heap.size + 1 + 1; omega) _) (by show w.heap.size ≤ w.heap.size + 1 + 1; omega) _) (by show w.heap.size ≤ w.heap.size + 1 + 1; omega) _) (by show w.heap.size ≤ w.heap.size + 1 + 1; omega) _) (by show w.heap.size ≤ w.heap.size + 1 + 1; omega) _) (fun _ h => .inl h)), (Below.setCell (Below.setCell (Below.setCell (Below.setCell (Below.setCell (Below.setCell (Below.setCell Hbw.out (by show w.heap.size ≤ w.heap.size + 1 + 1; omega) _) (by show w.heap.size ≤ w.heap.size + 1 + 1; omega) _) (by show w.heap.size ≤ w.heap.size + 1 + 1; omega) _) (by show w.heap.size ≤ w.heap.size + 1 + 1; omega) _) (by show w.heap.size ≤ w.heap.size + 1 + 1; omega) _) (by show w.heap.size ≤ w.heap.size + 1 + 1; omega) _) (by show w.heap.size ≤ w.heap.size + 1 + 1; omega) _)⟩
  | false =>
   rw [if_neg (by simp)]
   go_enter Tryz.func102, Tryz.ntmps102
   go_wp2_with fail
   refine (HP2.out _ hb0.out).mono ?_
   rintro e w1 ⟨rfl, hb⟩
   have Hbw := Yq (hb0.out.trans (hb.mono hb0.out.size))
   obtain ⟨q0, q1, q2, q3, q4, q5, q6, q7, q8, q9, q10, q11, q12, q13, q14, q15, q16, q17, q18, q19, q20⟩ := Hcell.out w1 (by simpa using hb)
   have hsz1 : w.heap.size + 2 < w1.heap.size := by have := hb.size; simp at this; omega
   clear hb
   go_wp2_with fail
   exact bodyPost_ret (v := .agg #[.int .i64 0, .int .u64 0, .string ⟨#[]⟩, .slice none 0 0, .string ⟨#[]⟩, .slice none 0 0, .slice none 0 0]) (by simp [results, Tryz.results102, go_sem, *]) rfl ⟨_, rfl, VR.zero _, (Below.setCell (Below.setCell (Below.setCell (Below.setCell (Below.setCell (Below.setCell (Below.setCell Hbw.out (by show w.heap.size ≤ w.heap.size + 1 + 1; omega) _) (by show w.heap.size ≤ w.heap.size + 1 + 1; omega) _) (by show w.heap.size ≤ w.heap.size + 1 + 1; omega) _) (by show w.heap.size ≤ w.heap.size + 1 + 1; omega) _) (by show w.heap.size ≤ w.heap.size + 1 + 1; omega) _) (by show w.heap.size ≤ w.heap.size + 1 + 1; omega) _) (by show w.heap.size ≤ w.heap.size + 1 + 1; omega) _)⟩
 ·rw [if_neg (fun h => hk h.1)]
  have hk' : (k != 5) = true := by simpa using hk
  clear hk
  go_enter Tryz.func102, Tryz.ntmps102
  go_wp2_with fail
  refine (HP2.out _ hb0.out).mono ?_
  rintro e w1 ⟨rfl, hb⟩
  have Hbw := Yq (hb0.out.trans (hb.mono hb0.out.size))
  obtain ⟨q0, q1, q2, q3, q4, q5, q6, q7, q8, q9, q10, q11, q12, q13, q14, q15, q16, q17, q18, q19, q20⟩ := Hcell.out w1 (by simpa using hb)
  have hsz1 : w.heap.size + 2 < w1.heap.size := by have := hb.size; simp at this; omega
  clear hb
  go_wp2_with fail
  exact bodyPost_ret (v := .agg #[.int .i64 0, .int .u64 0, .string ⟨#[]⟩, .slice none 0 0, .string ⟨#[]⟩, .slice none 0 0, .slice none 0 0]) (by simp [results, Tryz.results102, go_sem, *]) rfl ⟨_, rfl, VR.zero _, (Below.setCell (Below.setCell (Below.setCell (Below.setCell (Below.setCell (Below.setCell (Below.setCell Hbw.out (by show w.heap.size ≤ w.heap.size + 1 + 1; omega) _) (by show w.heap.size ≤ w.heap.size + 1 + 1; omega) _) (by show w.heap.size ≤ w.heap.size + 1 + 1; omega) _) (by show w.heap.size ≤ w.heap.size + 1 + 1; omega) _) (by show w.heap.size ≤ w.heap.size + 1 + 1; omega) _) (by show w.heap.size ≤ w.heap.size + 1 + 1; omega) _) (by show w.heap.size ≤ w.heap.size + 1 + 1; omega) _)⟩
end Go.Proofs.YtlmbcoecipbblaaGreatDoor
