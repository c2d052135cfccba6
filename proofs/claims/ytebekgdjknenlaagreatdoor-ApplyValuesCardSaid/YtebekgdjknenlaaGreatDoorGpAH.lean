/- value.Put, walked. Plain facts: edits as trees, and which ones are right. How. -/
import Derived.Test.YtebekgdjknenlaaGreatDoorVWith
set_option maxRecDepth 100000
set_option maxHeartbeats 4000000
set_option linter.unusedVariables false
set_option linter.unusedSimpArgs false
namespace Go.Proofs.YtebekgdjknenlaaGreatDoor
open Go.RowKit
open Val (V cmp ocmp cF posF hitF cP posP hitP get find withV putV putP spl one MonoN v0)
theorem put_any (x key y : V) (xc kc yc : List Value) (w : World) (E : List (Option Nat)) (hE : ∀ k, some k ∈ E → k < w.heap.size) (hx : VR (fragE w E) x xc) (hkv : VR (fragE w E) key kc) (hy : VR (fragE w E) y yc) (hm : MonoN (cP x.pairs key) x.pairs.length) (hl : x.pairs.length < 100000) :
  Calls Tryz.prog 76 #[.agg xc.toArray, .agg kc.toArray, .agg yc.toArray] w (RetV E w (putV x key y)) := by
 have HP := Yq (fun (wx : World) (hb : Below w.heap.size w wx) => spot_any x key xc kc wx ((hx.mono (fragE_le w E)).mono (below_le hb)) ((hkv.mono (fragE_le w E)).mono (below_le hb)) hm (Nat.lt_trans hl (by decide)))
 have HE := Yq hE; clear hE
 have Hx := Yq hx
 obtain ⟨k, n, t, f, r, l, p⟩ := x
 rw [VR] at hx
 obtain ⟨fv, lv, pv, fe, le, pe, rfl, hsz, ⟨hf, hl', hp⟩, hF, hL, hP⟩ := hx
 obtain ⟨ck, cn, ct, cr, ca1, cn1, cc1, ca2, cn2, cc2, ca3, cn3, cc3, rfl⟩ := hkv.shape
 obtain ⟨yn, yt, yr, ya1, yn1, yc1, ya2, yn2, yc2, ya3, yn3, yc3, rfl⟩ := hy.shapeK
 obtain ⟨a1, c1, rfl, _⟩ := hf.len
 obtain ⟨a2, c2, rfl, _⟩ := hl'.len
 obtain ⟨a3, c3, rfl, g1, g2, _⟩ := hp.len
 have hl : p.length < 100000 := hl
 have hg : putV (.mk k n t f r l p) key y = if k = 5 ∨ k = 0 then (if (spl p (posP p key) (one (hitP p key)) (decide (y.kind ≠ 0)) (key, y)).length = 0 then v0 else .mk 5 0 ByteArray.empty [] ByteArray.empty [] (spl p (posP p key) (one (hitP p key)) (decide (y.kind ≠ 0)) (key, y))) else .mk k n t f r l p := rfl
 rw [hg]
 have hpl := Val.posP_le p key
 have HP2 : Hid (∀ (wx : World), Below w.heap.size w wx → Calls Tryz.prog 88 #[.agg #[.int .i64 k, .int .u64 n, .string t, .slice a1 fe.length c1, .string r, .slice a2 le.length c2, .slice a3 pe.length c3], .agg #[.int .i64 ck, .int .u64 cn, .string ct, .slice ca1 cn1 cc1, .string cr, .slice ca2 cn2 cc2, .slice ca3 cn3 cc3]] wx fun e w' => e = .returned (.tuple #[.int .i64 (posP p key : Nat), .bool (hitP p key)]) ∧ Below wx.heap.size wx w') := HP.out
 have HS := Yq (fun (wx : World) (hb : Below w.heap.size w wx) (pos many : Nat) (b : Bool) (hpm : pos + many ≤ p.length) => spliced_par _ pe pos many b ([.int .i64 ck, .int .u64 cn, .string ct, .slice ca1 cn1 cc1, .string cr, .slice ca2 cn2 cc2, .slice ca3 cn3 cc3] ++ [.int .i64 y.kind, .int .u64 yn, .string yt, .slice ya1 yn1 yc1, .string yr, .slice ya2 yn2 yc2, .slice ya3 yn3 yc3]) wx ((hp.mono (fragE_le w E)).mono (below_le hb)) hP.shapes (by rw [hP.len]; omega) (by rw [hP.len]; exact hpm) ⟨_, _, hkv.shape, hy.shape, rfl⟩)
 have HR := Yq (fun (wz : World) (hb : Below w.heap.size w wz) (v3 : Value) (pos many : Nat) (b : Bool) (h3 : FlatC 14 (fragE wz E) v3 (spliceL_par pe pos many b ([.int .i64 ck, .int .u64 cn, .string ct, .slice ca1 cn1 cc1, .string cr, .slice ca2 cn2 cc2, .slice ca3 cn3 cc3] ++ [.int .i64 y.kind, .int .u64 yn, .string yt, .slice ya1 yn1 yc1, .string yr, .slice ya2 yn2 yc2, .slice ya3 yn3 yc3]))) =>
  (show VR (fragE wz E) (.mk 5 0 ByteArray.empty [] ByteArray.empty [] (spl p pos many b (key, y))) [.int .i64 5, .int .u64 0, .string ⟨#[]⟩, .slice none 0 0, .string ⟨#[]⟩, .slice none 0 0, v3] by
   rw [VR]
   have hle : FLe (fragE w E) (fragE wz E) := belowE hb (fun _ h => .inl h)
   exact ⟨_, _, v3, [], [], _, rfl, ⟨Nat.zero_le _, Nat.zero_le _⟩, ⟨FlatC.nil _ _, FlatC.nil _ _, h3⟩, by rw [FsR], by rw [LsR], PsR.splice pos many b (hP.mono hle) (hkv.mono hle) (hy.mono hle)⟩))
 have HLn := Yq (fun (pos many : Nat) (b : Bool) => (PsR.splice pos many b hP hkv hy).len)
 have Hlen := Yq (fun (pos many : Nat) (b : Bool) => splice_len14 (a := pos) (m := many) (b := b) (x := ([.int .i64 ck, .int .u64 cn, .string ct, .slice ca1 cn1 cc1, .string cr, .slice ca2 cn2 cc2, .slice ca3 cn3 cc3] ++ [.int .i64 y.kind, .int .u64 yn, .string yt, .slice ya1 yn1 yc1, .string yr, .slice ya2 yn2 yc2, .slice ya3 yn3 yc3])) hp.sizes rfl)
 obtain ⟨yk, hyk⟩ : ∃ yk, yk = y.kind := ⟨_, rfl⟩
 rw [← hyk] at HS HR Hlen HLn ⊢
 clear HP hf hl' hp hF hL hP hm hg hy hyk hsz hkv
 generalize posP p key = pos at *
 generalize hitP p key = hit at *
 generalize fe.length = n1 at *
 generalize le.length = n2 at *
 generalize pe.length = n3 at *
 have hcell : ∀ w1 : World, Below (w.heap.size + 4) ((((w.alloc (.cells #[.int .i64 k, .int .u64 n, .string t, .slice a1 n1 c1, .string r, .slice a2 n2 c2, .slice a3 n3 c3] 27)).alloc (.cells #[.int .i64 ck, .int .u64 cn, .string ct, .slice ca1 cn1 cc1, .string cr, .slice ca2 cn2 cc2, .slice ca3 cn3 cc3] 27)).alloc (.cells #[.int .i64 yk, .int .u64 yn, .string yt, .slice ya1 yn1 yc1, .string yr, .slice ya2 yn2 yc2, .slice ya3 yn3 yc3] 27)).alloc (.cells #[.int .i64 0, .int .u64 0, .string ⟨#[]⟩, .slice none 0 0, .string ⟨#[]⟩, .slice none 0 0, .slice none 0 0] 27)) w1 → w1.cell? ⟨w.heap.size, 0, none⟩ = some (.int .i64 k) ∧ w1.cell? ⟨w.heap.size, 1, none⟩ = some (.int .u64 n) ∧ w1.cell? ⟨w.heap.size, 2, none⟩ = some (.string t) ∧ w1.cell? ⟨w.heap.size, 3, none⟩ = some (.slice a1 n1 c1) ∧ w1.cell? ⟨w.heap.size, 4, none⟩ = some (.string r) ∧ w1.cell? ⟨w.heap.size, 5, none⟩ = some (.slice a2 n2 c2) ∧ w1.cell? ⟨w.heap.size, 6, none⟩ = some (.slice a3 n3 c3) ∧ w1.cell? ⟨w.heap.size + 1, 0, none⟩ = some (.int .i64 ck) ∧ w1.cell? ⟨w.heap.size + 1, 1, none⟩ = some (.int .u64 cn) ∧ w1.cell? ⟨w.heap.size + 1, 2, none⟩ = some (.string ct) ∧ w1.cell? ⟨w.heap.size + 1, 3, none⟩ = some (.slice ca1 cn1 cc1) ∧ w1.cell? ⟨w.heap.size + 1, 4, none⟩ = some (.string cr) ∧ w1.cell? ⟨w.heap.size + 1, 5, none⟩ = some (.slice ca2 cn2 cc2) ∧ w1.cell? ⟨w.heap.size + 1, 6, none⟩ = some (.slice ca3 cn3 cc3) ∧ w1.cell? ⟨w.heap.size + 1 + 1, 0, none⟩ = some (.int .i64 yk) ∧ w1.cell? ⟨w.heap.size + 1 + 1, 1, none⟩ = some (.int .u64 yn) ∧ w1.cell? ⟨w.heap.size + 1 + 1, 2, none⟩ = some (.string yt) ∧ w1.cell? ⟨w.heap.size + 1 + 1, 3, none⟩ = some (.slice ya1 yn1 yc1) ∧ w1.cell? ⟨w.heap.size + 1 + 1, 4, none⟩ = some (.string yr) ∧ w1.cell? ⟨w.heap.size + 1 + 1, 5, none⟩ = some (.slice ya2 yn2 yc2) ∧ w1.cell? ⟨w.heap.size + 1 + 1, 6, none⟩ = some (.slice ya3 yn3 yc3) ∧ w1.cell? ⟨w.heap.size + 1 + 1 + 1, 0, none⟩ = some (.int .i64 0) ∧ w1.cell? ⟨w.heap.size + 1 + 1 + 1, 1, none⟩ = some (.int .u64 0) ∧ w1.cell? ⟨w.heap.size + 1 + 1 + 1, 2, none⟩ = some (.string ⟨#[]⟩) ∧ w1.cell? ⟨w.heap.size + 1 + 1 + 1, 3, none⟩ = some (.slice none 0 0) ∧ w1.cell? ⟨w.heap.size + 1 + 1 + 1, 4, none⟩ = some (.string ⟨#[]⟩) ∧ w1.cell? ⟨w.heap.size + 1 + 1 + 1, 5, none⟩ = some (.slice none 0 0) ∧ w1.cell? ⟨w.heap.size + 1 + 1 + 1, 6, none⟩ = some (.slice none 0 0) ∧ w1.frozen? ⟨w.heap.size + 1 + 1 + 1, 0, none⟩ = false ∧ w1.frozen? ⟨w.heap.size + 1 + 1 + 1, 1, none⟩ = false ∧ w1.frozen? ⟨w.heap.size + 1 + 1 + 1, 2, none⟩ = false ∧ w1.frozen? ⟨w.heap.size + 1 + 1 + 1, 3, none⟩ = false ∧ w1.frozen? ⟨w.heap.size + 1 + 1 + 1, 4, none⟩ = false ∧ w1.frozen? ⟨w.heap.size + 1 + 1 + 1, 5, none⟩ = false ∧ w1.frozen? ⟨w.heap.size + 1 + 1 + 1, 6, none⟩ = false := by
  intro w1 hb
  refine ⟨?_, ?_, ?_, ?_, ?_, ?_, ?_, ?_, ?_, ?_, ?_, ?_, ?_, ?_, ?_, ?_, ?_, ?_, ?_, ?_, ?_, ?_, ?_, ?_, ?_, ?_, ?_, ?_, ?_, ?_, ?_, ?_, ?_, ?_, ?_⟩
  ·rw [hb.cell (by dsimp only; omega), World.cell?_alloc_past _ _ _ (by simp only [World.size_alloc]; omega), World.cell?_alloc_past _ _ _ (by simp only [World.size_alloc]; omega), World.cell?_alloc_past _ _ _ (by simp only [World.size_alloc]; omega), World.cell?_alloc_at _ _ _ _ rfl]; rfl
  ·rw [hb.cell (by dsimp only; omega), World.cell?_alloc_past _ _ _ (by simp only [World.size_alloc]; omega), World.cell?_alloc_past _ _ _ (by simp only [World.size_alloc]; omega), World.cell?_alloc_past _ _ _ (by simp only [World.size_alloc]; omega), World.cell?_alloc_at _ _ _ _ rfl]; rfl
  ·rw [hb.cell (by dsimp only; omega), World.cell?_alloc_past _ _ _ (by simp only [World.size_alloc]; omega), World.cell?_alloc_past _ _ _ (by simp only [World.size_alloc]; omega), World.cell?_alloc_past _ _ _ (by simp only [World.size_alloc]; omega), World.cell?_alloc_at _ _ _ _ rfl]; rfl
  ·rw [hb.cell (by dsimp only; omega), World.cell?_alloc_past _ _ _ (by simp only [World.size_alloc]; omega), World.cell?_alloc_past _ _ _ (by simp only [World.size_alloc]; omega), World.cell?_alloc_past _ _ _ (by simp only [World.size_alloc]; omega), World.cell?_alloc_at _ _ _ _ rfl]; rfl
  ·rw [hb.cell (by dsimp only; omega), World.cell?_alloc_past _ _ _ (by simp only [World.size_alloc]; omega), World.cell?_alloc_past _ _ _ (by simp only [World.size_alloc]; omega), World.cell?_alloc_past _ _ _ (by simp only [World.size_alloc]; omega), World.cell?_alloc_at _ _ _ _ rfl]; rfl
  ·rw [hb.cell (by dsimp only; omega), World.cell?_alloc_past _ _ _ (by simp only [World.size_alloc]; omega), World.cell?_alloc_past _ _ _ (by simp only [World.size_alloc]; omega), World.cell?_alloc_past _ _ _ (by simp only [World.size_alloc]; omega), World.cell?_alloc_at _ _ _ _ rfl]; rfl
  ·rw [hb.cell (by dsimp only; omega), World.cell?_alloc_past _ _ _ (by simp only [World.size_alloc]; omega), World.cell?_alloc_past _ _ _ (by simp only [World.size_alloc]; omega), World.cell?_alloc_past _ _ _ (by simp only [World.size_alloc]; omega), World.cell?_alloc_at _ _ _ _ rfl]; rfl
  ·rw [hb.cell (by dsimp only; omega), World.cell?_alloc_past _ _ _ (by simp only [World.size_alloc]; omega), World.cell?_alloc_past _ _ _ (by simp only [World.size_alloc]; omega), World.cell?_alloc_at _ _ _ _ (by simp only [World.size_alloc])]; rfl
  ·rw [hb.cell (by dsimp only; omega), World.cell?_alloc_past _ _ _ (by simp only [World.size_alloc]; omega), World.cell?_alloc_past _ _ _ (by simp only [World.size_alloc]; omega), World.cell?_alloc_at _ _ _ _ (by simp only [World.size_alloc])]; rfl
  ·rw [hb.cell (by dsimp only; omega), World.cell?_alloc_past _ _ _ (by simp only [World.size_alloc]; omega), World.cell?_alloc_past _ _ _ (by simp only [World.size_alloc]; omega), World.cell?_alloc_at _ _ _ _ (by simp only [World.size_alloc])]; rfl
  ·rw [hb.cell (by dsimp only; omega), World.cell?_alloc_past _ _ _ (by simp only [World.size_alloc]; omega), World.cell?_alloc_past _ _ _ (by simp only [World.size_alloc]; omega), World.cell?_alloc_at _ _ _ _ (by simp only [World.size_alloc])]; rfl
  ·rw [hb.cell (by dsimp only; omega), World.cell?_alloc_past _ _ _ (by simp only [World.size_alloc]; omega), World.cell?_alloc_past _ _ _ (by simp only [World.size_alloc]; omega), World.cell?_alloc_at _ _ _ _ (by simp only [World.size_alloc])]; rfl
  ·rw [hb.cell (by dsimp only; omega), World.cell?_alloc_past _ _ _ (by simp only [World.size_alloc]; omega), World.cell?_alloc_past _ _ _ (by simp only [World.size_alloc]; omega), World.cell?_alloc_at _ _ _ _ (by simp only [World.size_alloc])]; rfl
  ·rw [hb.cell (by dsimp only; omega), World.cell?_alloc_past _ _ _ (by simp only [World.size_alloc]; omega), World.cell?_alloc_past _ _ _ (by simp only [World.size_alloc]; omega), World.cell?_alloc_at _ _ _ _ (by simp only [World.size_alloc])]; rfl
  ·rw [hb.cell (by dsimp only; omega), World.cell?_alloc_past _ _ _ (by simp only [World.size_alloc]; omega), World.cell?_alloc_at _ _ _ _ (by simp only [World.size_alloc])]; rfl
  ·rw [hb.cell (by dsimp only; omega), World.cell?_alloc_past _ _ _ (by simp only [World.size_alloc]; omega), World.cell?_alloc_at _ _ _ _ (by simp only [World.size_alloc])]; rfl
  ·rw [hb.cell (by dsimp only; omega), World.cell?_alloc_past _ _ _ (by simp only [World.size_alloc]; omega), World.cell?_alloc_at _ _ _ _ (by simp only [World.size_alloc])]; rfl
  ·rw [hb.cell (by dsimp only; omega), World.cell?_alloc_past _ _ _ (by simp only [World.size_alloc]; omega), World.cell?_alloc_at _ _ _ _ (by simp only [World.size_alloc])]; rfl
  ·rw [hb.cell (by dsimp only; omega), World.cell?_alloc_past _ _ _ (by simp only [World.size_alloc]; omega), World.cell?_alloc_at _ _ _ _ (by simp only [World.size_alloc])]; rfl
  ·rw [hb.cell (by dsimp only; omega), World.cell?_alloc_past _ _ _ (by simp only [World.size_alloc]; omega), World.cell?_alloc_at _ _ _ _ (by simp only [World.size_alloc])]; rfl
  ·rw [hb.cell (by dsimp only; omega), World.cell?_alloc_past _ _ _ (by simp only [World.size_alloc]; omega), World.cell?_alloc_at _ _ _ _ (by simp only [World.size_alloc])]; rfl
  ·rw [hb.cell (by dsimp only; omega), World.cell?_alloc_at _ _ _ _ (by simp only [World.size_alloc])]; rfl
  ·rw [hb.cell (by dsimp only; omega), World.cell?_alloc_at _ _ _ _ (by simp only [World.size_alloc])]; rfl
  ·rw [hb.cell (by dsimp only; omega), World.cell?_alloc_at _ _ _ _ (by simp only [World.size_alloc])]; rfl
  ·rw [hb.cell (by dsimp only; omega), World.cell?_alloc_at _ _ _ _ (by simp only [World.size_alloc])]; rfl
  ·rw [hb.cell (by dsimp only; omega), World.cell?_alloc_at _ _ _ _ (by simp only [World.size_alloc])]; rfl
  ·rw [hb.cell (by dsimp only; omega), World.cell?_alloc_at _ _ _ _ (by simp only [World.size_alloc])]; rfl
  ·rw [hb.cell (by dsimp only; omega), World.cell?_alloc_at _ _ _ _ (by simp only [World.size_alloc])]; rfl
  ·rw [hb.frozen (by dsimp only; omega), World.frozen?_alloc_at _ _ _ _ (by simp only [World.size_alloc])]
  ·rw [hb.frozen (by dsimp only; omega), World.frozen?_alloc_at _ _ _ _ (by simp only [World.size_alloc])]
  ·rw [hb.frozen (by dsimp only; omega), World.frozen?_alloc_at _ _ _ _ (by simp only [World.size_alloc])]
  ·rw [hb.frozen (by dsimp only; omega), World.frozen?_alloc_at _ _ _ _ (by simp only [World.size_alloc])]
  ·rw [hb.frozen (by dsimp only; omega), World.frozen?_alloc_at _ _ _ _ (by simp only [World.size_alloc])]
  ·rw [hb.frozen (by dsimp only; omega), World.frozen?_alloc_at _ _ _ _ (by simp only [World.size_alloc])]
  ·rw [hb.frozen (by dsimp only; omega), World.frozen?_alloc_at _ _ _ _ (by simp only [World.size_alloc])]
 have Hcell := Yq hcell; clear hcell
 have hb0 := Yq (Below.alloc (Below.alloc (Below.alloc (Below.alloc (Below.refl w.heap.size w) (Nat.le_refl _) (.cells #[.int .i64 k, .int .u64 n, .string t, .slice a1 n1 c1, .string r, .slice a2 n2 c2, .slice a3 n3 c3] 27)) (by simp) (.cells #[.int .i64 ck, .int .u64 cn, .string ct, .slice ca1 cn1 cc1, .string cr, .slice ca2 cn2 cc2, .slice ca3 cn3 cc3] 27)) (by simp; omega) (.cells #[.int .i64 yk, .int .u64 yn, .string yt, .slice ya1 yn1 yc1, .string yr, .slice ya2 yn2 yc2, .slice ya3 yn3 yc3] 27)) (by simp; omega) (.cells #[.int .i64 0, .int .u64 0, .string ⟨#[]⟩, .slice none 0 0, .string ⟨#[]⟩, .slice none 0 0, .slice none 0 0] 27))
 have Hsame : Hid (∀ w1, Below w.heap.size w w1 → RetV E w (.mk k n t f r l p) (.returned (.agg #[.int .i64 k, .int .u64 n, .string t, .slice a1 n1 c1, .string r, .slice a2 n2 c2, .slice a3 n3 c3])) w1) := fun w1 hb => ⟨_, rfl, Hx.out.mono (belowE hb (fun _ h => .inl h)), hb⟩
 by_cases hk : k = 5 ∨ k = 0
 ·rw [if_pos hk]
  have hput : ∃ b, b = decide (yk ≠ 0) ∧ (yk != 0) = b := ⟨_, rfl, by by_cases h : yk = 0 <;> simp [h]⟩
  obtain ⟨b, hb1, hb2⟩ := hput
  rw [← hb1]
  clear hb1
  have hcount : ∃ c : Nat, c = one hit ∧ ∀ (w : World), Calls Tryz.prog 83 #[.bool hit] w fun e w' => e = .returned (.int .i64 (c : Nat)) ∧ w' = w := by
   refine ⟨_, rfl, fun w => (count_any hit w).mono ?_⟩
   rintro e w' ⟨rfl, rfl⟩
   cases hit <;> exact ⟨rfl, rfl⟩
  obtain ⟨c, hc1, hc2⟩ := hcount
  have HC := Yq hc2
  rw [← hc1] at hpl ⊢
  clear hc1 hc2
  have hke : ((k != 5) = false) ∨ ((k != 5) = true ∧ (k != 0) = false) := by
   rcases hk with h | h
   ·left; simpa using h
   ·right; exact ⟨by simp; omega, by simpa using h⟩
  clear hk
  obtain ⟨nl, hnl⟩ : ∃ nl, nl = (spl p pos c b (key, y)).length := ⟨_, rfl⟩
  rw [← hnl]
  have Hnl := Yq hnl; clear hnl
  by_cases hz : nl = 0
  ·rw [if_pos hz]
   subst hz
   rcases hke with e1 | ⟨e1, e2⟩
   all_goals
    go_enter Tryz.func76, Tryz.ntmps76
    go_wp2_with fail
    refine (HP2.out _ hb0.out).mono ?_
    rintro e w1 ⟨rfl, hb⟩
    have hbB : Below (w.heap.size + 4) ((((w.alloc (.cells #[.int .i64 k, .int .u64 n, .string t, .slice a1 n1 c1, .string r, .slice a2 n2 c2, .slice a3 n3 c3] 27)).alloc (.cells #[.int .i64 ck, .int .u64 cn, .string ct, .slice ca1 cn1 cc1, .string cr, .slice ca2 cn2 cc2, .slice ca3 cn3 cc3] 27)).alloc (.cells #[.int .i64 yk, .int .u64 yn, .string yt, .slice ya1 yn1 yc1, .string yr, .slice ya2 yn2 yc2, .slice ya3 yn3 yc3] 27)).alloc (.cells #[.int .i64 0, .int .u64 0, .string ⟨#[]⟩, .slice none 0 0, .string ⟨#[]⟩, .slice none 0 0, .slice none 0 0] 27)) w1 := by simpa using hb
    have HbB := Yq hbB
    have Hbw := Yq (hb0.out.trans (hb.mono hb0.out.size))
    obtain ⟨q0, q1, q2, q3, q4, q5, q6, q7, q8, q9, q10, q11, q12, q13, q14, q15, q16, q17, q18, q19, q20, q21, q22, q23, q24, q25, q26, q27, q28, q29, q30, q31, q32, q33, q34⟩ := Hcell.out w1 hbB
    have hsz1 : w.heap.size + 3 < w1.heap.size := by have := hb.size; simp at this; omega
    clear hb hbB
    go_wp2_with fail
    refine wp_region_still_tail 11 (by kernel_rfl) (by kernel_rfl) ?_
    simp only [List.take_succ_cons, List.take_zero, List.drop_succ_cons, List.drop_zero]
    repeat still_step
    still_call (HC.out _)
    repeat still_step
    refine wpStill_nil ?_
    change wpList _ _ _ _ _ w1.drew
    go_wp2_with fail
    refine (HS.out _ Hbw.out.drew pos c b hpl).mono ?_
    rintro e w3 ⟨v3, rfl, hown3, hb3⟩
    have hb13 := ((Below.refl w1.heap.size w1).drew).trans hb3
    have hB3 := HbB.out.trans (hb13.mono (by omega))
    have Hbw3 := Yq (Hbw.out.trans (hb13.mono Hbw.out.size))
    clear q0 q1 q2 q3 q4 q5 q6 q7 q8 q9 q10 q11 q12 q13 q14 q15 q16 q17 q18 q19 q20 q21 q22 q23 q24 q25 q26 q27 q28 q29 q30 q31 q32 q33 q34
    obtain ⟨q0, q1, q2, q3, q4, q5, q6, q7, q8, q9, q10, q11, q12, q13, q14, q15, q16, q17, q18, q19, q20, q21, q22, q23, q24, q25, q26, q27, q28, q29, q30, q31, q32, q33, q34⟩ := Hcell.out w3 hB3
    have hsz3 : w.heap.size + 3 < w3.heap.size := Nat.lt_of_lt_of_le hsz1 hb13.size
    have hF3 : FlatC 14 (fragE w3 (some (w.heap.size + 1 + 1 + 1) :: E)) v3 (spliceL_par pe pos c b ([.int .i64 ck, .int .u64 cn, .string ct, .slice ca1 cn1 cc1, .string cr, .slice ca2 cn2 cc2, .slice ca3 cn3 cc3] ++ [.int .i64 yk, .int .u64 yn, .string yt, .slice ya1 yn1 yc1, .string yr, .slice ya2 yn2 yc2, .slice ya3 yn3 yc3])) :=
     FlatC.of_owns hown3 rfl (Hlen.out pos c b) (own_notin hown3 (fun g hg => by
      have h2 := HE.out g
      simp only [List.mem_cons, Option.some.injEq] at hg
      have h3 := hsz1
      show g < w1.heap.size
      rcases hg with hg | hg
      ·omega
      ·have := h2 hg; omega))
    have HF3 := Yq hF3
    obtain ⟨a5, c5, rfl, _⟩ := hF3.len
    have hn5 := HLn.out pos c b
    have hn5' : (spliceL_par pe pos c b ([.int .i64 ck, .int .u64 cn, .string ct, .slice ca1 cn1 cc1, .string cr, .slice ca2 cn2 cc2, .slice ca3 cn3 cc3] ++ [.int .i64 yk, .int .u64 yn, .string yt, .slice ya1 yn1 yc1, .string yr, .slice ya2 yn2 yc2, .slice ya3 yn3 yc3])).length = 0 := by rw [Hnl.out]; exact hn5
    clear hown3 hb3 hb13 hB3 hF3 hn5
    rw [hn5'] at HF3 ⊢
    clear hn5'
    go_wp2_with fail
    exact bodyPost_ret (v := .agg #[.int .i64 0, .int .u64 0, .string ⟨#[]⟩, .slice none 0 0, .string ⟨#[]⟩, .slice none 0 0, .slice none 0 0]) (by simp [results, Tryz.results76, go_sem, *]) rfl ⟨_, rfl, VR.zero _, (Below.setCell (Below.setCell (Below.setCell (Below.setCell (Below.setCell (Below.setCell (Below.setCell Hbw3.out (by show w.heap.size ≤ w.heap.size + 1 + 1 + 1; omega) _) (by show w.heap.size ≤ w.heap.size + 1 + 1 + 1; omega) _) (by show w.heap.size ≤ w.heap.size + 1 + 1 + 1; omega) _) (by show w.heap.size ≤ w.heap.size + 1 + 1 + 1; omega) _) (by show w.heap.size ≤ w.heap.size + 1 + 1 + 1; omega) _) (by show w.heap.size ≤ w.heap.size + 1 + 1 + 1; omega) _) (by show w.heap.size ≤ w.heap.size + 1 + 1 + 1; omega) _)⟩
  ·rw [if_neg hz]
   have Hz := Yq hz; clear hz
   rcases hke with e1 | ⟨e1, e2⟩
   all_goals
    go_enter Tryz.func76, Tryz.ntmps76
    go_wp2_with fail
    refine (HP2.out _ hb0.out).mono ?_
    rintro e w1 ⟨rfl, hb⟩
    have hbB : Below (w.heap.size + 4) ((((w.alloc (.cells #[.int .i64 k, .int .u64 n, .string t, .slice a1 n1 c1, .string r, .slice a2 n2 c2, .slice a3 n3 c3] 27)).alloc (.cells #[.int .i64 ck, .int .u64 cn, .string ct, .slice ca1 cn1 cc1, .string cr, .slice ca2 cn2 cc2, .slice ca3 cn3 cc3] 27)).alloc (.cells #[.int .i64 yk, .int .u64 yn, .string yt, .slice ya1 yn1 yc1, .string yr, .slice ya2 yn2 yc2, .slice ya3 yn3 yc3] 27)).alloc (.cells #[.int .i64 0, .int .u64 0, .string ⟨#[]⟩, .slice none 0 0, .string ⟨#[]⟩, .slice none 0 0, .slice none 0 0] 27)) w1 := by simpa using hb
    have HbB := Yq hbB
    have Hbw := Yq (hb0.out.trans (hb.mono hb0.out.size))
    obtain ⟨q0, q1, q2, q3, q4, q5, q6, q7, q8, q9, q10, q11, q12, q13, q14, q15, q16, q17, q18, q19, q20, q21, q22, q23, q24, q25, q26, q27, q28, q29, q30, q31, q32, q33, q34⟩ := Hcell.out w1 hbB
    have hsz1 : w.heap.size + 3 < w1.heap.size := by have := hb.size; simp at this; omega
    clear hb hbB
    go_wp2_with fail
    refine wp_region_still_tail 11 (by kernel_rfl) (by kernel_rfl) ?_
    simp only [List.take_succ_cons, List.take_zero, List.drop_succ_cons, List.drop_zero]
    repeat still_step
    still_call (HC.out _)
    repeat still_step
    refine wpStill_nil ?_
    change wpList _ _ _ _ _ w1.drew
    go_wp2_with fail
    refine (HS.out _ Hbw.out.drew pos c b hpl).mono ?_
    rintro e w3 ⟨v3, rfl, hown3, hb3⟩
    have hb13 := ((Below.refl w1.heap.size w1).drew).trans hb3
    have hB3 := HbB.out.trans (hb13.mono (by omega))
    have Hbw3 := Yq (Hbw.out.trans (hb13.mono Hbw.out.size))
    clear q0 q1 q2 q3 q4 q5 q6 q7 q8 q9 q10 q11 q12 q13 q14 q15 q16 q17 q18 q19 q20 q21 q22 q23 q24 q25 q26 q27 q28 q29 q30 q31 q32 q33 q34
    obtain ⟨q0, q1, q2, q3, q4, q5, q6, q7, q8, q9, q10, q11, q12, q13, q14, q15, q16, q17, q18, q19, q20, q21, q22, q23, q24, q25, q26, q27, q28, q29, q30, q31, q32, q33, q34⟩ := Hcell.out w3 hB3
    have hsz3 : w.heap.size + 3 < w3.heap.size := Nat.lt_of_lt_of_le hsz1 hb13.size
    have hF3 : FlatC 14 (fragE w3 (some (w.heap.size + 1 + 1 + 1) :: E)) v3 (spliceL_par pe pos c b ([.int .i64 ck, .int .u64 cn, .string ct, .slice ca1 cn1 cc1, .string cr, .slice ca2 cn2 cc2, .slice ca3 cn3 cc3] ++ [.int .i64 yk, .int .u64 yn, .string yt, .slice ya1 yn1 yc1, .string yr, .slice ya2 yn2 yc2, .slice ya3 yn3 yc3])) :=
     FlatC.of_owns hown3 rfl (Hlen.out pos c b) (own_notin hown3 (fun g hg => by
      have h2 := HE.out g
      simp only [List.mem_cons, Option.some.injEq] at hg
      have h3 := hsz1
      show g < w1.heap.size
      rcases hg with hg | hg
      ·omega
      ·have := h2 hg; omega))
    have HF3 := Yq hF3
    obtain ⟨a5, c5, rfl, _⟩ := hF3.len
    have hn5 := HLn.out pos c b
    have hn5' : (spliceL_par pe pos c b ([.int .i64 ck, .int .u64 cn, .string ct, .slice ca1 cn1 cc1, .string cr, .slice ca2 cn2 cc2, .slice ca3 cn3 cc3] ++ [.int .i64 yk, .int .u64 yn, .string yt, .slice ya1 yn1 yc1, .string yr, .slice ya2 yn2 yc2, .slice ya3 yn3 yc3])).length = nl := by rw [Hnl.out]; exact hn5
    clear hown3 hb3 hb13 hB3 hF3 hn5
    rw [hn5'] at HF3 ⊢
    clear hn5'
    have hz' : ((nl : Int) == 0) = false := by have := Hz.out; simp; omega
    go_wp2_with fail
    refine bodyPost_ret (v := .agg #[.int .i64 5, .int .u64 0, .string ⟨#[]⟩, .slice none 0 0, .string ⟨#[]⟩, .slice none 0 0, .slice a5 nl c5]) (by simp [results, Tryz.results76, go_sem, *]) rfl ⟨_, rfl, HR.out _ ?_ _ pos c b (HF3.out.mono ?_), ?_⟩
    ·exact (Below.setCell (Below.setCell (Below.setCell (Below.setCell (Below.setCell (Below.setCell (Below.setCell Hbw3.out (by show w.heap.size ≤ w.heap.size + 1 + 1 + 1; omega) _) (by show w.heap.size ≤ w.heap.size + 1 + 1 + 1; omega) _) (by show w.heap.size ≤ w.heap.size + 1 + 1 + 1; omega) _) (by show w.heap.size ≤ w.heap.size + 1 + 1 + 1; omega) _) (by show w.heap.size ≤ w.heap.size + 1 + 1 + 1; omega) _) (by show w.heap.size ≤ w.heap.size + 1 + 1 + 1; omega) _) (by show w.heap.size ≤ w.heap.size + 1 + 1 + 1; omega) _)
    ·exact setE (by simp) (setE (by simp) (setE (by simp) (setE (by simp) (setE (by simp) (setE (by simp) (setE (by simp) (subE _ (fun _ h => by simp [h]))))))))
    ·exact (Below.setCell (Below.setCell (Below.setCell (Below.setCell (Below.setCell (Below.setCell (Below.setCell Hbw3.out (by show w.heap.size ≤ w.heap.size + 1 + 1 + 1; omega) _) (by show w.heap.size ≤ w.heap.size + 1 + 1 + 1; omega) _) (by show w.heap.size ≤ w.heap.size + 1 + 1 + 1; omega) _) (by show w.heap.size ≤ w.heap.size + 1 + 1 + 1; omega) _) (by show w.heap.size ≤ w.heap.size + 1 + 1 + 1; omega) _) (by show w.heap.size ≤ w.heap.size + 1 + 1 + 1; omega) _) (by show w.heap.size ≤ w.heap.size + 1 + 1 + 1; omega) _)
 ·rw [if_neg hk]
  have e1 : (k != 5) = true := by simp; omega
  have e2 : (k != 0) = true := by simp; omega
  clear hk
  go_enter Tryz.func76, Tryz.ntmps76
  go_wp2_with fail
  exact bodyPost_ret (v := .agg #[.int .i64 k, .int .u64 n, .string t, .slice a1 n1 c1, .string r, .slice a2 n2 c2, .slice a3 n3 c3]) (by simp [results, Tryz.results76, go_sem, *]) rfl (Hsame.out _ (Below.alloc (Below.alloc (Below.alloc (Below.alloc (Below.refl w.heap.size w) (Nat.le_refl _) _) (by simp) _) (by simp; omega) _) (by simp; omega) _))
end Go.Proofs.YtebekgdjknenlaaGreatDoor
namespace Go.Proofs.YtebekgdjknenlaaGreatDoor.Val
inductive E where
 | mk (kind : Int) (old new : V) (fields : List (Int × E)) (rests : Bool) (ro rn : ByteArray) (steps : List (Int × Int × V × E)) (keys : List (V × E))
def E.kind : E → Int | .mk k _ _ _ _ _ _ _ _ => k
def E.old : E → V | .mk _ o _ _ _ _ _ _ _ => o
def E.new : E → V | .mk _ _ n _ _ _ _ _ _ => n
def E.fields : E → List (Int × E) | .mk _ _ _ f _ _ _ _ _ => f
def E.rests : E → Bool | .mk _ _ _ _ r _ _ _ _ => r
def E.ro : E → ByteArray | .mk _ _ _ _ _ r _ _ _ => r
def E.rn : E → ByteArray | .mk _ _ _ _ _ _ r _ _ => r
def E.steps : E → List (Int × Int × V × E) | .mk _ _ _ _ _ _ _ s _ => s
def E.keys : E → List (V × E) | .mk _ _ _ _ _ _ _ _ k => k
def noneV (v : V) : Bool := decide (v.kind = 0) && right v
def bareE (k : Int) (o n : V) (nf : Nat) (r : Bool) (ro rn : ByteArray) (ns nk : Nat) : Bool :=
 (decide (k = 1) || noneV o) && ((decide (k = 1) || noneV n) && ((decide (k = 2) || decide (nf = 0)) && ((decide (k = 2) || !r) && ((decide (k = 2) || decide (ro.size + rn.size = 0)) && ((decide (k = 3) || decide (ns = 0)) && (decide (k = 4) || decide (nk = 0)))))))
def E.bare : E → Bool | .mk k o n f r ro rn s ks => bareE k o n f.length r ro rn s.length ks.length
mutual
def eright : E → Bool
 | .mk k o n f r ro rn s ks => bareE k o n f.length r ro rn s.length ks.length &&
   (if k = 0 then true else if k = 1 then right o && (right n && !decide (cmp o n = 0)) else
    if k = 2 then efields 0 f && (decide (r = decide (ro ≠ rn)) && ((r || decide (ro.size = 0)) && (r || decide (f ≠ [])))) else
    if k = 3 then esteps 0 false s else if k = 4 then decide (0 < ks.length) && ekeys none ks else false)
def efields (last : Int) : List (Int × E) → Bool
 | [] => true
 | (n, e) :: r => decide (last < n ∧ n ≤ 536870911) && (decide (e.kind ≠ 0) && eright e) && efields n r
def esteps (last : Int) (changes : Bool) : List (Int × Int × V × E) → Bool
 | [] => changes
 | (k, c, v, e) :: r =>
  (if k = 1 then decide (1 ≤ c ∧ c ≤ 1048576) && (noneV v && (decide (e.kind = 0) && e.bare)) else
   if k = 2 ∨ k = 3 then decide (c = 0) && (partB v && (decide (e.kind = 0) && e.bare)) else
   if k = 4 then decide (c = 0) && (noneV v && (decide (e.kind ≠ 0) && eright e)) else false) &&
  !(decide (last = 1 ∧ k = 1)) && !(decide (last = 3 ∧ k = 2)) && esteps k (changes || decide (k ≠ 1)) r
def ekeys (last : Option V) : List (V × E) → Bool
 | [] => true
 | (k, e) :: r => decide (k.kind = 1 ∨ k.kind = 2) && right k && (decide (e.kind ≠ 0) && eright e) && (match last with | none => true | some p => decide (p.kind = k.kind) && decide (cmp p k < 0)) && ekeys (some k) r
end
def esome (e : E) : Bool := decide (e.kind ≠ 0) && eright e
def stepRight (k c : Int) (v : V) (e : E) : Bool :=
 if k = 1 then decide (1 ≤ c ∧ c ≤ 1048576) && (noneV v && (decide (e.kind = 0) && e.bare)) else
 if k = 2 ∨ k = 3 then decide (c = 0) && (partB v && (decide (e.kind = 0) && e.bare)) else
 if k = 4 then decide (c = 0) && (noneV v && esome e) else false
mutual
def esm : E → Prop
 | .mk k o n f r ro rn s ks => (ro.size ≤ 1000 ∧ rn.size ≤ 1000) ∧ esmF f ∧ esmS s ∧ esmK ks
def esmF : List (Int × E) → Prop
 | [] => True
 | (n, e) :: r => esm e ∧ esmF r
def esmS : List (Int × Int × V × E) → Prop
 | [] => True
 | (k, c, v, e) :: r => esm e ∧ esmS r
def esmK : List (V × E) → Prop
 | [] => True
 | (k, e) :: r => esm e ∧ esmK r
end
theorem esmF_at : ∀ {l : List (Int × E)}, esmF l → ∀ e ∈ l, esm e.2
 | (n, x) :: r, h, e, he => by
  rw [esmF] at h
  rcases List.mem_cons.1 he with rfl | he
  ·exact h.1
  ·exact esmF_at h.2 e he
theorem esmS_at : ∀ {l : List (Int × Int × V × E)}, esmS l → ∀ e ∈ l, esm e.2.2.2
 | (k, c, v, x) :: r, h, e, he => by
  rw [esmS] at h
  rcases List.mem_cons.1 he with rfl | he
  ·exact h.1
  ·exact esmS_at h.2 e he
theorem esmK_at : ∀ {l : List (V × E)}, esmK l → ∀ e ∈ l, esm e.2
 | (k, x) :: r, h, e, he => by
  rw [esmK] at h
  rcases List.mem_cons.1 he with rfl | he
  ·exact h.1
  ·exact esmK_at h.2 e he
theorem noneV_v0 : noneV v0 = true := by
 unfold noneV v0
 rw [right]
 simp [V.kind, bareV]
theorem esize_field {x : E} {m : Int} {e : E} (h : (m, e) ∈ x.fields) : SizeOf.sizeOf e < SizeOf.sizeOf x := by
 cases x
 have := List.sizeOf_lt_of_mem h
 simp [E.fields] at this ⊢; omega
theorem esize_step {x : E} {k c : Int} {v : V} {e : E} (h : (k, c, v, e) ∈ x.steps) : SizeOf.sizeOf e < SizeOf.sizeOf x := by
 cases x
 have := List.sizeOf_lt_of_mem h
 simp [E.steps] at this ⊢; omega
theorem esize_key {x : E} {k : V} {e : E} (h : (k, e) ∈ x.keys) : SizeOf.sizeOf e < SizeOf.sizeOf x := by
 cases x
 have := List.sizeOf_lt_of_mem h
 simp [E.keys] at this ⊢; omega
end Go.Proofs.YtebekgdjknenlaaGreatDoor.Val
namespace Go.Proofs.YtebekgdjknenlaaGreatDoor
open Go.RowKit
open Val (V E)
mutual
def ER (h : Frag) : E → List Value → Prop
 | .mk k o n f r ro rn s ks, cs => ∃ oc nc fv sv kv fe se ke, cs = .int .i64 k :: (oc ++ (nc ++ [fv, .bool r, .string ro, .string rn, sv, kv])) ∧ (ro.size ≤ maxLen ∧ rn.size ≤ maxLen) ∧
   (VR h o oc ∧ VR h n nc) ∧ (FlatC 22 h fv fe ∧ FlatC 30 h sv se ∧ FlatC 28 h kv ke) ∧ EFs h f fe ∧ ESs h s se ∧ EKs h ks ke
def EFs (h : Frag) : List (Int × E) → List (List Value) → Prop
 | [], es => es = []
 | (n, x) :: r, es => ∃ xc er, es = (.int .i64 n :: xc) :: er ∧ ER h x xc ∧ EFs h r er
def ESs (h : Frag) : List (Int × Int × V × E) → List (List Value) → Prop
 | [], es => es = []
 | (k, c, v, x) :: r, es => ∃ vc xc er, es = (.int .i64 k :: .int .i64 c :: (vc ++ xc)) :: er ∧ VR h v vc ∧ ER h x xc ∧ ESs h r er
def EKs (h : Frag) : List (V × E) → List (List Value) → Prop
 | [], es => es = []
 | (k, x) :: r, es => ∃ kc xc er, es = (kc ++ xc) :: er ∧ VR h k kc ∧ ER h x xc ∧ EKs h r er
end
mutual
theorem ER.mono {h h' : Frag} (hle : FLe h h') : ∀ {x : E} {cs : List Value}, ER h x cs → ER h' x cs
 | .mk k o n f r ro rn s ks, cs, hv => by
  rw [ER] at hv ⊢
  obtain ⟨oc, nc, fv, sv, kv, fe, se, ke, h1, h2, ⟨h3, h4⟩, ⟨h5, h6, h7⟩, h8, h9, h10⟩ := hv
  exact ⟨oc, nc, fv, sv, kv, fe, se, ke, h1, h2, ⟨h3.mono hle, h4.mono hle⟩, ⟨h5.mono hle, h6.mono hle, h7.mono hle⟩, EFs.mono hle h8, ESs.mono hle h9, EKs.mono hle h10⟩
theorem EFs.mono {h h' : Frag} (hle : FLe h h') : ∀ {xs : List (Int × E)} {es : List (List Value)}, EFs h xs es → EFs h' xs es
 | [], es, hv => by rw [EFs] at hv ⊢; exact hv
 | (n, x) :: r, es, hv => by
  rw [EFs] at hv ⊢
  obtain ⟨xc, er, h1, h2, h3⟩ := hv
  exact ⟨xc, er, h1, ER.mono hle h2, EFs.mono hle h3⟩
theorem ESs.mono {h h' : Frag} (hle : FLe h h') : ∀ {xs : List (Int × Int × V × E)} {es : List (List Value)}, ESs h xs es → ESs h' xs es
 | [], es, hv => by rw [ESs] at hv ⊢; exact hv
 | (k, c, v, x) :: r, es, hv => by
  rw [ESs] at hv ⊢
  obtain ⟨vc, xc, er, h1, h2, h3, h4⟩ := hv
  exact ⟨vc, xc, er, h1, h2.mono hle, ER.mono hle h3, ESs.mono hle h4⟩
theorem EKs.mono {h h' : Frag} (hle : FLe h h') : ∀ {xs : List (V × E)} {es : List (List Value)}, EKs h xs es → EKs h' xs es
 | [], es, hv => by rw [EKs] at hv ⊢; exact hv
 | (k, x) :: r, es, hv => by
  rw [EKs] at hv ⊢
  obtain ⟨kc, xc, er, h1, h2, h3, h4⟩ := hv
  exact ⟨kc, xc, er, h1, h2.mono hle, ER.mono hle h3, EKs.mono hle h4⟩
end
def Ed21 (e : List Value) : Prop := ∃ (k : Int) (x y : List Value) (a1 : Option Addr) (n1 c1 : Nat) (b : Bool) (t r : ByteArray) (a2 : Option Addr) (n2 c2 : Nat) (a3 : Option Addr) (n3 c3 : Nat), Val7 x ∧ Val7 y ∧
 e = .int .i64 k :: (x ++ (y ++ [.slice a1 n1 c1, .bool b, .string t, .string r, .slice a2 n2 c2, .slice a3 n3 c3]))
theorem ER.shape {h : Frag} {x : E} {cs : List Value} (hv : ER h x cs) : Ed21 cs := by
 cases x
 rw [ER] at hv
 obtain ⟨oc, nc, fv, sv, kv, fe, se, ke, rfl, _, ⟨h1, h2⟩, ⟨h5, h6, h7⟩, _⟩ := hv
 obtain ⟨a1, c1, rfl, _⟩ := h5.len
 obtain ⟨a2, c2, rfl, _⟩ := h6.len
 obtain ⟨a3, c3, rfl, _⟩ := h7.len
 exact ⟨_, oc, nc, _, _, _, _, _, _, _, _, _, _, _, _, h1.shape, h2.shape, rfl⟩
theorem EFs.len {h : Frag} : ∀ {xs : List (Int × E)} {es : List (List Value)}, EFs h xs es → es.length = xs.length
 | [], es, hv => by rw [EFs] at hv; simp [hv]
 | (n, x) :: r, es, hv => by
  rw [EFs] at hv
  obtain ⟨xc, er, rfl, _, h3⟩ := hv
  simp [h3.len]
theorem ESs.len {h : Frag} : ∀ {xs : List (Int × Int × V × E)} {es : List (List Value)}, ESs h xs es → es.length = xs.length
 | [], es, hv => by rw [ESs] at hv; simp [hv]
 | (k, c, v, x) :: r, es, hv => by
  rw [ESs] at hv
  obtain ⟨vc, xc, er, rfl, _, _, h3⟩ := hv
  simp [h3.len]
theorem EKs.len {h : Frag} : ∀ {xs : List (V × E)} {es : List (List Value)}, EKs h xs es → es.length = xs.length
 | [], es, hv => by rw [EKs] at hv; simp [hv]
 | (k, x) :: r, es, hv => by
  rw [EKs] at hv
  obtain ⟨kc, xc, er, rfl, _, _, h3⟩ := hv
  simp [h3.len]
theorem EFs.at {h : Frag} : ∀ {xs : List (Int × E)} {es : List (List Value)} (_ : EFs h xs es) {i : Nat} (hi : i < xs.length) (he : i < es.length), ∃ xc, es[i] = .int .i64 xs[i].1 :: xc ∧ ER h xs[i].2 xc
 | (n, x) :: r, es, hv, i, hi, he => by
  rw [EFs] at hv
  obtain ⟨xc, er, rfl, h2, h3⟩ := hv
  cases i with
  | zero => exact ⟨xc, rfl, h2⟩
  | succ i => exact h3.at (by simpa using hi) (by simpa using he)
theorem ESs.at {h : Frag} : ∀ {xs : List (Int × Int × V × E)} {es : List (List Value)} (_ : ESs h xs es) {i : Nat} (hi : i < xs.length) (he : i < es.length), ∃ vc xc, es[i] = .int .i64 xs[i].1 :: .int .i64 xs[i].2.1 :: (vc ++ xc) ∧ VR h xs[i].2.2.1 vc ∧ ER h xs[i].2.2.2 xc
 | (k, c, v, x) :: r, es, hv, i, hi, he => by
  rw [ESs] at hv
  obtain ⟨vc, xc, er, rfl, h1, h2, h3⟩ := hv
  cases i with
  | zero => exact ⟨vc, xc, rfl, h1, h2⟩
  | succ i => exact h3.at (by simpa using hi) (by simpa using he)
theorem EKs.at {h : Frag} : ∀ {xs : List (V × E)} {es : List (List Value)} (_ : EKs h xs es) {i : Nat} (hi : i < xs.length) (he : i < es.length), ∃ kc xc, es[i] = kc ++ xc ∧ VR h xs[i].1 kc ∧ ER h xs[i].2 xc
 | (k, x) :: r, es, hv, i, hi, he => by
  rw [EKs] at hv
  obtain ⟨kc, xc, er, rfl, h1, h2, h3⟩ := hv
  cases i with
  | zero => exact ⟨kc, xc, rfl, h1, h2⟩
  | succ i => exact h3.at (by simpa using hi) (by simpa using he)
theorem sizeEF (w : World) : (Go.sizeOf (Tryz.prog.elem 28)).run Tryz.prog w = .ok 22 w := by kernel_rfl
theorem sizeES (w : World) : (Go.sizeOf (Tryz.prog.elem 29)).run Tryz.prog w = .ok 30 w := by kernel_rfl
theorem sizeEK (w : World) : (Go.sizeOf (Tryz.prog.elem 30)).run Tryz.prog w = .ok 28 w := by kernel_rfl
end Go.Proofs.YtebekgdjknenlaaGreatDoor
