/- value.Put, walked. Blocks that hold values and edits: their zeros and sizes. -/
import Derived.Test.YtlmbcoecipbblaaGreatDoorVWith
set_option maxRecDepth 100000
set_option maxHeartbeats 4000000
set_option linter.unusedVariables false
set_option linter.unusedSimpArgs false
namespace Go.Proofs.YtlmbcoecipbblaaGreatDoor
open Go.RowKit
open Val (V cmp ocmp cF posF hitF cP posP hitP get find withV putV putP spl one MonoN v0)
theorem put_any (x key y : V) (xc kc yc : List Value) (w : World) (E : List (Option Nat)) (hE : ∀ k, some k ∈ E → k < w.heap.size) (hx : VR (fragE w E) x xc) (hkv : VR (fragE w E) key kc) (hy : VR (fragE w E) y yc) (hm : MonoN (cP x.pairs key) x.pairs.length) (hl : x.pairs.length < 100000) :
  Calls Tryz.prog 104 #[.agg xc.toArray, .agg kc.toArray, .agg yc.toArray] w (RetV E w (putV x key y)) := by
 have HP := Yq (fun (wx : World) (hb : Below w.heap.size w wx) => spot_any x key xc kc wx ((hx.mono (fragE_le w E)).mono (below_le hb)) ((hkv.mono (fragE_le w E)).mono (below_le hb)) hm (Nat.lt_trans hl (by decide)))
 have HE := Yq hE; clear hE
 have Hx := Yq hx
 obtain ⟨k, n, t, f, r, l, p⟩ := x
 rw [VR] at hx
 obtain ⟨fv, lv, pv, fe, le, pe, rfl, hsz, ⟨hf, hl', hp⟩, hF, hL, hP⟩ := hx
 obtain ⟨ck, cn, ct, cr, ca1, cn1, cc1, ca2, cn2, cc2, ca3, cn3, cc3, rfl⟩ := hkv.shape
 obtain ⟨yn, yt, yr, ya1, yn1, yc1, ya2, yn2, yc2, ya3, yn3, yc3, rfl⟩ := hy.shapeK
 obtain ⟨a1, c1, rfl, _⟩ := hf.len
 obtain ⟨a2, c2, rfl, _⟩ := hl'.len
 obtain ⟨a3, c3, rfl, g1, g2, _⟩ := hp.len
 have hl : p.length < 100000 := hl
 have hg : putV (.mk k n t f r l p) key y = if k = 5 ∨ k = 0 then (if (spl p (posP p key) (one (hitP p key)) (decide (y.kind ≠ 0)) (key, y)).length = 0 then v0 else .mk 5 0 ByteArray.empty [] ByteArray.empty [] (spl p (posP p key) (one (hitP p key)) (decide (y.kind ≠ 0)) (key, y))) else .mk k n t f r l p := rfl
 rw [hg]
 have hpl := Val.posP_le p key
 have HP2 : Hid (∀ (wx : World), Below w.heap.size w wx → Calls Tryz.prog 114 #[.agg #[.int .i64 k, .int .u64 n, .string t, .slice a1 fe.length c1, .string r, .slice a2 le.length c2, .slice a3 pe.length c3], .agg #[.int .i64 ck, .int .u64 cn, .string ct, .slice ca1 cn1 cc1, .string cr, .slice ca2 cn2 cc2, .slice ca3 cn3 cc3]] wx fun e w' => e = .returned (.tuple #[.int .i64 (posP p key : Nat), .bool (hitP p key)]) ∧ Below wx.heap.size wx w') := HP.out
 have HS := Yq (fun (wx : World) (hb : Below w.heap.size w wx) (pos many : Nat) (b : Bool) (hpm : pos + many ≤ p.length) => spliced_par _ pe pos many b ([.int .i64 ck, .int .u64 cn, .string ct, .slice ca1 cn1 cc1, .string cr, .slice ca2 cn2 cc2, .slice ca3 cn3 cc3] ++ [.int .i64 y.kind, .int .u64 yn, .string yt, .slice ya1 yn1 yc1, .string yr, .slice ya2 yn2 yc2, .slice ya3 yn3 yc3]) wx ((hp.mono (fragE_le w E)).mono (below_le hb)) hP.shapes (by rw [hP.len]; omega) (by rw [hP.len]; exact hpm) ⟨_, _, hkv.shape, hy.shape, rfl⟩)
 have HR := Yq (fun (wz : World) (hb : Below w.heap.size w wz) (v3 : Value) (pos many : Nat) (b : Bool) (h3 : FlatC 14 (fragE wz E) v3 (spliceL_par pe pos many b ([.int .i64 ck, .int .u64 cn, .string ct, .slice ca1 cn1 cc1, .string cr, .slice ca2 cn2 cc2, .slice ca3 cn3 cc3] ++ [.int .i64 y.kind, .int .u64 yn, .string yt, .slice ya1 yn1 yc1, .string yr, .slice ya2 yn2 yc2, .slice ya3 yn3 yc3]))) =>
  (show VR (fragE wz E) (.mk 5 0 ByteArray.empty [] ByteArray.empty [] (spl p pos many b (key, y))) [.int .i64 5, .int .u64 0, .string ⟨#[]⟩, .slice none 0 0, .string ⟨#[]⟩, .slice none 0 0, v3] by
   rw [VR]
   have hle : FLe (fragE w E) (fragE wz E) := belowE hb (fun _ h => .inl h)
   exact ⟨_, _, v3, [], [], _, rfl, ⟨Nat.zero_le _, Nat.zero_le _⟩, ⟨FlatC.nil _ _, FlatC.nil _ _, h3⟩, by rw [FsR], by rw [LsR], PsR.splice pos many b (hP.mono hle) (hkv.mono hle) (hy.mono hle)⟩))
 have HLn := Yq (fun (pos many : Nat) (b : Bool) => (PsR.splice pos many b hP hkv hy).len)
 have Hlen := Yq (fun (pos many : Nat) (b : Bool) => splice_len14 (a := pos) (m := many) (b := b) (x := ([.int .i64 ck, .int .u64 cn, .string ct, .slice ca1 cn1 cc1, .string cr, .slice ca2 cn2 cc2, .slice ca3 cn3 cc3] ++ [.int .i64 y.kind, .int .u64 yn, .string yt, .slice ya1 yn1 yc1, .string yr, .slice ya2 yn2 yc2, .slice ya3 yn3 yc3])) hp.sizes rfl)
 obtain ⟨yk, hyk⟩ : ∃ yk, yk = y.kind := ⟨_, rfl⟩
 rw [← hyk] at HS HR Hlen HLn ⊢
 clear HP hf hl' hp hF hL hP hm hg hy hyk hsz hkv
 generalize posP p key = pos at *
 generalize hitP p key = hit at *
 generalize fe.length = n1 at *
 generalize le.length = n2 at *
 generalize pe.length = n3 at *
 have hcell : ∀ w1 : World, Below (w.heap.size + 4) ((((w.alloc (.cells #[.int .i64 k, .int .u64 n, .string t, .slice a1 n1 c1, .string r, .slice a2 n2 c2, .slice a3 n3 c3] 27)).alloc (.cells #[.int .i64 ck, .int .u64 cn, .string ct, .slice ca1 cn1 cc1, .string cr, .slice ca2 cn2 cc2, .slice ca3 cn3 cc3] 27)).alloc (.cells #[.int .i64 yk, .int .u64 yn, .string yt, .slice ya1 yn1 yc1, .string yr, .slice ya2 yn2 yc2, .slice ya3 yn3 yc3] 27)).alloc (.cells #[.int .i64 0, .int .u64 0, .string ⟨#[]⟩, .slice none 0 0, .string ⟨#[]⟩, .slice none 0 0, .slice none 0 0] 27)) w1 → w1.cell? ⟨w.heap.size, 0, none⟩ = some (.int .i64 k) ∧ w1.cell? ⟨w.heap.size, 1, none⟩ = some (.int .u64 n) ∧ w1.cell? ⟨w.heap.size, 2, none⟩ = some (.string t) ∧ w1.cell? ⟨w.heap.size, 3, none⟩ = some (.slice a1 n1 c1) ∧ w1.cell? ⟨w.heap.size, 4, none⟩ = some (.string r) ∧ w1.cell? ⟨w.heap.size, 5, none⟩ = some (.slice a2 n2 c2) ∧ w1.cell? ⟨w.heap.size, 6, none⟩ = some (.slice a3 n3 c3) ∧ w1.cell? ⟨w.heap.size + 1, 0, none⟩ = some (.int .i64 ck) ∧ w1.cell? ⟨w.heap.size + 1, 1, none⟩ = some (.int .u64 cn) ∧ w1.cell? ⟨w.heap.size + 1, 2, none⟩ = some (.string ct) ∧ w1.cell? ⟨w.heap.size + 1, 3, none⟩ = some (.slice ca1 cn1 cc1) ∧ w1.cell? ⟨w.heap.size + 1, 4, none⟩ = some (.string cr) ∧ w1.cell? ⟨w.heap.size + 1, 5, none⟩ = some (.slice ca2 cn2 cc2) ∧ w1.cell? ⟨w.heap.size + 1, 6, none⟩ = some (.slice ca3 cn3 cc3) ∧ w1.cell? ⟨w.heap.size + 1 + 1, 0, none⟩ = some (.int .i64 yk) ∧ w1.cell? ⟨w.heap.size + 1 + 1, 1, none⟩ = some (.int .u64 yn) ∧ w1.cell? ⟨w.heap.size + 1 + 1, 2, none⟩ = some (.string yt) ∧ w1.cell? ⟨w.heap.size + 1 + 1, 3, none⟩ = some (.slice ya1 yn1 yc1) ∧ w1.cell? ⟨w.heap.size + 1 + 1, 4, none⟩ = some (.string yr) ∧ w1.cell? ⟨w.heap.size + 1 + 1, 5, none⟩ = some (.slice ya2 yn2 yc2) ∧ w1.cell? ⟨w.heap.size + 1 + 1, 6, none⟩ = some (.slice ya3 yn3 yc3) ∧ w1.cell? ⟨w.heap.size + 1 + 1 + 1, 0, none⟩ = some (.int .i64 0) ∧ w1.cell? ⟨w.heap.size + 1 + 1 + 1, 1, none⟩ = some (.int .u64 0) ∧ w1.cell? ⟨w.heap.size + 1 + 1 + 1, 2, none⟩ = some (.string ⟨#[]⟩) ∧ w1.cell? ⟨w.heap.size + 1 + 1 + 1, 3, none⟩ = some (.slice none 0 0) ∧ w1.cell? ⟨w.heap.size + 1 + 1 + 1, 4, none⟩ = some (.string ⟨#[]⟩) ∧ w1.cell? ⟨w.heap.size + 1 + 1 + 1, 5, none⟩ = some (.slice none 0 0) ∧ w1.cell? ⟨w.heap.size + 1 + 1 + 1, 6, none⟩ = some (.slice none 0 0) ∧ w1.frozen? ⟨w.heap.size + 1 + 1 + 1, 0, none⟩ = false ∧ w1.frozen? ⟨w.heap.size + 1 + 1 + 1, 1, none⟩ = false ∧ w1.frozen? ⟨w.heap.size + 1 + 1 + 1, 2, none⟩ = false ∧ w1.frozen? ⟨w.heap.size + 1 + 1 + 1, 3, none⟩ = false ∧ w1.frozen? ⟨w.heap.size + 1 + 1 + 1, 4, none⟩ = false ∧ w1.frozen? ⟨w.heap.size + 1 + 1 + 1, 5, none⟩ = false ∧ w1.frozen? ⟨w.heap.size + 1 + 1 + 1, 6, none⟩ = false := by
  intro w1 hb
  refine ⟨?_, ?_, ?_, ?_, ?_, ?_, ?_, ?_, ?_, ?_, ?_, ?_, ?_, ?_, ?_, ?_, ?_, ?_, ?_, ?_, ?_, ?_, ?_, ?_, ?_, ?_, ?_, ?_, ?_, ?_, ?_, ?_, ?_, ?_, ?_⟩
  ·rw [hb.cell (by dsimp only; omega), World.cell?_alloc_past _ _ _ (by simp only [World.size_alloc]; omega), World.cell?_alloc_past _ _ _ (by simp only [World.size_alloc]; omega), World.cell?_alloc_past _ _ _ (by simp only [World.size_alloc]; omega), World.cell?_alloc_at _ _ _ _ rfl]; rfl
  ·rw [hb.cell (by dsimp only; omega), World.cell?_alloc_past _ _ _ (by simp only [World.size_alloc]; omega), World.cell?_alloc_past _ _ _ (by simp only [World.size_alloc]; omega), World.cell?_alloc_past _ _ _ (by simp only [World.size_alloc]; omega), World.cell?_alloc_at _ _ _ _ rfl]; rfl
  ·rw [hb.cell (by dsimp only; omega), World.cell?_alloc_past _ _ _ (by simp only [World.size_alloc]; omega), World.cell?_alloc_past _ _ _ (by simp only [World.size_alloc]; omega), World.cell?_alloc_past _ _ _ (by simp only [World.size_alloc]; omega), World.cell?_alloc_at _ _ _ _ rfl]; rfl
  ·rw [hb.cell (by dsimp only; omega), World.cell?_alloc_past _ _ _ (by simp only [World.size_alloc]; omega), World.cell?_alloc_past _ _ _ (by simp only [World.size_alloc]; omega), World.cell?_alloc_past _ _ _ (by simp only [World.size_alloc]; omega), World.cell?_alloc_at _ _ _ _ rfl]; rfl
  ·rw [hb.cell (by dsimp only; omega), World.cell?_alloc_past _ _ _ (by simp only [World.size_alloc]; omega), World.cell?_alloc_past _ _ _ (by simp only [World.size_alloc]; omega), World.cell?_alloc_past _ _ _ (by simp only [World.size_alloc]; omega), World.cell?_alloc_at _ _ _ _ rfl]; rfl
  ·rw [hb.cell (by dsimp only; omega), World.cell?_alloc_past _ _ _ (by simp only [World.size_alloc]; omega), World.cell?_alloc_past _ _ _ (by simp only [World.size_alloc]; omega), World.cell?_alloc_past _ _ _ (by simp only [World.size_alloc]; omega), World.cell?_alloc_at _ _ _ _ rfl]; rfl
  ·rw [hb.cell (by dsimp only; omega), World.cell?_alloc_past _ _ _ (by simp only [World.size_alloc]; omega), World.cell?_alloc_past _ _ _ (by simp only [World.size_alloc]; omega), World.cell?_alloc_past _ _ _ (by simp only [World.size_alloc]; omega), World.cell?_alloc_at _ _ _ _ rfl]; rfl
  ·rw [hb.cell (by dsimp only; omega), World.cell?_alloc_past _ _ _ (by simp only [World.size_alloc]; omega), World.cell?_alloc_past _ _ _ (by simp only [World.size_alloc]; omega), World.cell?_alloc_at _ _ _ _ (by simp only [World.size_alloc])]; rfl
  ·rw [hb.cell (by dsimp only; omega), World.cell?_alloc_past _ _ _ (by simp only [World.size_alloc]; omega), World.cell?_alloc_past _ _ _ (by simp only [World.size_alloc]; omega), World.cell?_alloc_at _ _ _ _ (by simp only [World.size_alloc])]; rfl
  ·rw [hb.cell (by dsimp only; omega), World.cell?_alloc_past _ _ _ (by simp only [World.size_alloc]; omega), World.cell?_alloc_past _ _ _ (by simp only [World.size_alloc]; omega), World.cell?_alloc_at _ _ _ _ (by simp only [World.size_alloc])]; rfl
  ·rw [hb.cell (by dsimp only; omega), World.cell?_alloc_past _ _ _ (by simp only [World.size_alloc]; omega), World.cell?_alloc_past _ _ _ (by simp only [World.size_alloc]; omega), World.cell?_alloc_at _ _ _ _ (by simp only [World.size_alloc])]; rfl
  ·rw [hb.cell (by dsimp only; omega), World.cell?_alloc_past _ _ _ (by simp only [World.size_alloc]; omega), World.cell?_alloc_past _ _ _ (by simp only [World.size_alloc]; omega), World.cell?_alloc_at _ _ _ _ (by simp only [World.size_alloc])]; rfl
  ·rw [hb.cell (by dsimp only; omega), World.cell?_alloc_past _ _ _ (by simp only [World.size_alloc]; omega), World.cell?_alloc_past _ _ _ (by simp only [World.size_alloc]; omega), World.cell?_alloc_at _ _ _ _ (by simp only [World.size_alloc])]; rfl
  ·rw [hb.cell (by dsimp only; omega), World.cell?_alloc_past _ _ _ (by simp only [World.size_alloc]; omega), World.cell?_alloc_past _ _ _ (by simp only [World.size_alloc]; omega), World.cell?_alloc_at _ _ _ _ (by simp only [World.size_alloc])]; rfl
  ·rw [hb.cell (by dsimp only; omega), World.cell?_alloc_past _ _ _ (by simp only [World.size_alloc]; omega), World.cell?_alloc_at _ _ _ _ (by simp only [World.size_alloc])]; rfl
  ·rw [hb.cell (by dsimp only; omega), World.cell?_alloc_past _ _ _ (by simp only [World.size_alloc]; omega), World.cell?_alloc_at _ _ _ _ (by simp only [World.size_alloc])]; rfl
  ·rw [hb.cell (by dsimp only; omega), World.cell?_alloc_past _ _ _ (by simp only [World.size_alloc]; omega), World.cell?_alloc_at _ _ _ _ (by simp only [World.size_alloc])]; rfl
  ·rw [hb.cell (by dsimp only; omega), World.cell?_alloc_past _ _ _ (by simp only [World.size_alloc]; omega), World.cell?_alloc_at _ _ _ _ (by simp only [World.size_alloc])]; rfl
  ·rw [hb.cell (by dsimp only; omega), World.cell?_alloc_past _ _ _ (by simp only [World.size_alloc]; omega), World.cell?_alloc_at _ _ _ _ (by simp only [World.size_alloc])]; rfl
  ·rw [hb.cell (by dsimp only; omega), World.cell?_alloc_past _ _ _ (by simp only [World.size_alloc]; omega), World.cell?_alloc_at _ _ _ _ (by simp only [World.size_alloc])]; rfl
  ·rw [hb.cell (by dsimp only; omega), World.cell?_alloc_past _ _ _ (by simp only [World.size_alloc]; omega), World.cell?_alloc_at _ _ _ _ (by simp only [World.size_alloc])]; rfl
  ·rw [hb.cell (by dsimp only; omega), World.cell?_alloc_at _ _ _ _ (by simp only [World.size_alloc])]; rfl
  ·rw [hb.cell (by dsimp only; omega), World.cell?_alloc_at _ _ _ _ (by simp only [World.size_alloc])]; rfl
  ·rw [hb.cell (by dsimp only; omega), World.cell?_alloc_at _ _ _ _ (by simp only [World.size_alloc])]; rfl
  ·rw [hb.cell (by dsimp only; omega), World.cell?_alloc_at _ _ _ _ (by simp only [World.size_alloc])]; rfl
  ·rw [hb.cell (by dsimp only; omega), World.cell?_alloc_at _ _ _ _ (by simp only [World.size_alloc])]; rfl
  ·rw [hb.cell (by dsimp only; omega), World.cell?_alloc_at _ _ _ _ (by simp only [World.size_alloc])]; rfl
  ·rw [hb.cell (by dsimp only; omega), World.cell?_alloc_at _ _ _ _ (by simp only [World.size_alloc])]; rfl
  ·rw [hb.frozen (by dsimp only; omega), World.frozen?_alloc_at _ _ _ _ (by simp only [World.size_alloc])]
  ·rw [hb.frozen (by dsimp only; omega), World.frozen?_alloc_at _ _ _ _ (by simp only [World.size_alloc])]
  ·rw [hb.frozen (by dsimp only; omega), World.frozen?_alloc_at _ _ _ _ (by simp only [World.size_alloc])]
  ·rw [hb.frozen (by dsimp only; omega), World.frozen?_alloc_at _ _ _ _ (by simp only [World.size_alloc])]
  ·rw [hb.frozen (by dsimp only; omega), World.frozen?_alloc_at _ _ _ _ (by simp only [World.size_alloc])]
  ·rw [hb.frozen (by dsimp only; omega), World.frozen?_alloc_at _ _ _ _ (by simp only [World.size_alloc])]
  ·rw [hb.frozen (by dsimp only; omega), World.frozen?_alloc_at _ _ _ _ (by simp only [World.size_alloc])]
 have Hcell := Yq hcell; clear hcell
 have hb0 := Yq (Below.alloc (Below.alloc (Below.alloc (Below.alloc (Below.refl w.heap.size w) (Nat.le_refl _) (.cells #[.int .i64 k, .int .u64 n, .string t, .slice a1 n1 c1, .string r, .slice a2 n2 c2, .slice a3 n3 c3] 27)) (by simp) (.cells #[.int .i64 ck, .int .u64 cn, .string ct, .slice ca1 cn1 cc1, .string cr, .slice ca2 cn2 cc2, .slice ca3 cn3 cc3] 27)) (by simp; omega) (.cells #[.int .i64 yk, .int .u64 yn, .string yt, .slice ya1 yn1 yc1, .string yr, .slice ya2 yn2 yc2, .slice ya3 yn3 yc3] 27)) (by simp; omega) (.cells #[.int .i64 0, .int .u64 0, .string ⟨#[]⟩, .slice none 0 0, .string ⟨#[]⟩, .slice none 0 0, .slice none 0 0] 27))
 have Hsame : Hid (∀ w1, Below w.heap.size w w1 → RetV E w (.mk k n t f r l p) (.returned (.agg #[.int .i64 k, .int .u64 n, .string t, .slice a1 n1 c1, .string r, .slice a2 n2 c2, .slice a3 n3 c3])) w1) := fun w1 hb => ⟨_, rfl, Hx.out.mono (belowE hb (fun _ h => .inl h)), hb⟩
 by_cases hk : k = 5 ∨ k = 0
 ·rw [if_pos hk]
  have hput : ∃ b, b = decide (yk ≠ 0) ∧ (yk != 0) = b := ⟨_, rfl, by by_cases h : yk = 0 <;> simp [h]⟩
  obtain ⟨b, hb1, hb2⟩ := hput
  rw [← hb1]
  clear hb1
  have hcount : ∃ c : Nat, c = one hit ∧ ∀ (w : World), Calls Tryz.prog 109 #[.bool hit] w fun e w' => e = .returned (.int .i64 (c : Nat)) ∧ w' = w := by
   refine ⟨_, rfl, fun w => (count_any hit w).mono ?_⟩
   rintro e w' ⟨rfl, rfl⟩
   cases hit <;> exact ⟨rfl, rfl⟩
  obtain ⟨c, hc1, hc2⟩ := hcount
  have HC := Yq hc2
  rw [← hc1] at hpl ⊢
  clear hc1 hc2
  have hke : ((k != 5) = false) ∨ ((k != 5) = true ∧ (k != 0) = false) := by
   rcases hk with h | h
   ·left; simpa using h
   ·right; exact ⟨by simp; omega, by simpa using h⟩
  clear hk
  obtain ⟨nl, hnl⟩ : ∃ nl, nl = (spl p pos c b (key, y)).length := ⟨_, rfl⟩
  rw [← hnl]
  have Hnl := Yq hnl; clear hnl
  by_cases hz : nl = 0
  ·rw [if_pos hz]
   subst hz
   rcases hke with e1 | ⟨e1, e2⟩
   all_goals
    go_enter Tryz.func104, Tryz.ntmps104
    go_wp2_with fail
    refine (HP2.out _ hb0.out).mono ?_
    rintro e w1 ⟨rfl, hb⟩
    have hbB : Below (w.heap.size + 4) ((((w.alloc (.cells #[.int .i64 k, .int .u64 n, .string t, .slice a1 n1 c1, .string r, .slice a2 n2 c2, .slice a3 n3 c3] 27)).alloc (.cells #[.int .i64 ck, .int .u64 cn, .string ct, .slice ca1 cn1 cc1, .string cr, .slice ca2 cn2 cc2, .slice ca3 cn3 cc3] 27)).alloc (.cells #[.int .i64 yk, .int .u64 yn, .string yt, .slice ya1 yn1 yc1, .string yr, .slice ya2 yn2 yc2, .slice ya3 yn3 yc3] 27)).alloc (.cells #[.int .i64 0, .int .u64 0, .string ⟨#[]⟩, .slice none 0 0, .string ⟨#[]⟩, .slice none 0 0, .slice none 0 0] 27)) w1 := by simpa using hb
    have HbB := Yq hbB
    have Hbw := Yq (hb0.out.trans (hb.mono hb0.out.size))
    obtain ⟨q0, q1, q2, q3, q4, q5, q6, q7, q8, q9, q10, q11, q12, q13, q14, q15, q16, q17, q18, q19, q20, q21, q22, q23, q24, q25, q26, q27, q28, q29, q30, q31, q32, q33, q34⟩ := Hcell.out w1 hbB
    have hsz1 : w.heap.size + 3 < w1.heap.size := by have := hb.size; simp at this; omega
    clear hb hbB
    go_wp2_with fail
    refine wp_region_still_tail 11 (by kernel_rfl) (by kernel_rfl) ?_
    simp only [List.take_succ_cons, List.take_zero, List.drop_succ_cons, List.drop_zero]
    repeat still_step
    still_call (HC.out _)
    repeat still_step
    refine wpStill_nil ?_
    change wpList _ _ _ _ _ w1.drew
    go_wp2_with fail
    refine (HS.out _ Hbw.out.drew pos c b hpl).mono ?_
    rintro e w3 ⟨v3, rfl, hown3, hb3⟩
    have hb13 := ((Below.refl w1.heap.size w1).drew).trans hb3
    have hB3 := HbB.out.trans (hb13.mono (by omega))
    have Hbw3 := Yq (Hbw.out.trans (hb13.mono Hbw.out.size))
    clear q0 q1 q2 q3 q4 q5 q6 q7 q8 q9 q10 q11 q12 q13 q14 q15 q16 q17 q18 q19 q20 q21 q22 q23 q24 q25 q26 q27 q28 q29 q30 q31 q32 q33 q34
    obtain ⟨q0, q1, q2, q3, q4, q5, q6, q7, q8, q9, q10, q11, q12, q13, q14, q15, q16, q17, q18, q19, q20, q21, q22, q23, q24, q25, q26, q27, q28, q29, q30, q31, q32, q33, q34⟩ := Hcell.out w3 hB3
    have hsz3 : w.heap.size + 3 < w3.heap.size := Nat.lt_of_lt_of_le hsz1 hb13.size
    have hF3 : FlatC 14 (fragE w3 (some (w.heap.size + 1 + 1 + 1) :: E)) v3 (spliceL_par pe pos c b ([.int .i64 ck, .int .u64 cn, .string ct, .slice ca1 cn1 cc1, .string cr, .slice ca2 cn2 cc2, .slice ca3 cn3 cc3] ++ [.int .i64 yk, .int .u64 yn, .string yt, .slice ya1 yn1 yc1, .string yr, .slice ya2 yn2 yc2, .slice ya3 yn3 yc3])) :=
     FlatC.of_owns hown3 rfl (Hlen.out pos c b) (own_notin hown3 (fun g hg => by
      have h2 := HE.out g
      simp only [List.mem_cons, Option.some.injEq] at hg
      have h3 := hsz1
      show g < w1.heap.size
      rcases hg with hg | hg
      ·omega
      ·have := h2 hg; omega))
    have HF3 := Yq hF3
    obtain ⟨a5, c5, rfl, _⟩ := hF3.len
    have hn5 := HLn.out pos c b
    have hn5' : (spliceL_par pe pos c b ([.int .i64 ck, .int .u64 cn, .string ct, .slice ca1 cn1 cc1, .string cr, .slice ca2 cn2 cc2, .slice ca3 cn3 cc3] ++ [.int .i64 yk, .int .u64 yn, .string yt, .slice ya1 yn1 yc1, .string yr, .slice ya2 yn2 yc2, .slice ya3 yn3 yc3])).length = 0 := by rw [Hnl.out]; exact hn5
    clear hown3 hb3 hb13 hB3 hF3 hn5
    rw [hn5'] at HF3 ⊢
    clear hn5'
    go_wp2_with fail
    exact bodyPost_ret (v := .agg #[.int .i64 0, .int .u64 0, .string ⟨#[]⟩, .slice none 0 0, .string ⟨#[]⟩, .slice none 0 0, .slice none 0 0]) (by simp [results, Tryz.results104, go_sem, *]) rfl ⟨_, rfl, VR.zero _, (Below.setCell (Below.setCell (Below.setCell (Below.setCell (Below.setCell (Below.setCell (Below.setCell Hbw3.out (by show w.heap.size ≤ w.heap.size + 1 + 1 + 1; omega) _) (by show w.heap.size ≤ w.heap.size + 1 + 1 + 1; omega) _) (by show w.heap.size ≤ w.heap.size + 1 + 1 + 1; omega) _) (by show w.heap.size ≤ w.heap.size + 1 + 1 + 1; omega) _) (by show w.heap.size ≤ w.heap.size + 1 + 1 + 1; omega) _) (by show w.heap.size ≤ w.heap.size + 1 + 1 + 1; omega) _) (by show w.heap.size ≤ w.heap.size + 1 + 1 + 1; omega) _)⟩
  ·rw [if_neg hz]
   have Hz := Yq hz; clear hz
   rcases hke with e1 | ⟨e1, e2⟩
   all_goals
    go_enter Tryz.func104, Tryz.ntmps104
    go_wp2_with fail
    refine (HP2.out _ hb0.out).mono ?_
    rintro e w1 ⟨rfl, hb⟩
    have hbB : Below (w.heap.size + 4) ((((w.alloc (.cells #[.int .i64 k, .int .u64 n, .string t, .slice a1 n1 c1, .string r, .slice a2 n2 c2, .slice a3 n3 c3] 27)).alloc (.cells #[.int .i64 ck, .int .u64 cn, .string ct, .slice ca1 cn1 cc1, .string cr, .slice ca2 cn2 cc2, .slice ca3 cn3 cc3] 27)).alloc (.cells #[.int .i64 yk, .int .u64 yn, .string yt, .slice ya1 yn1 yc1, .string yr, .slice ya2 yn2 yc2, .slice ya3 yn3 yc3] 27)).alloc (.cells #[.int .i64 0, .int .u64 0, .string ⟨#[]⟩, .slice none 0 0, .string ⟨#[]⟩, .slice none 0 0, .slice none 0 0] 27)) w1 := by simpa using hb
    have HbB := Yq hbB
    have Hbw := Yq (hb0.out.trans (hb.mono hb0.out.size))
    obtain ⟨q0, q1, q2, q3, q4, q5, q6, q7, q8, q9, q10, q11, q12, q13, q14, q15, q16, q17, q18, q19, q20, q21, q22, q23, q24, q25, q26, q27, q28, q29, q30, q31, q32, q33, q34⟩ := Hcell.out w1 hbB
    have hsz1 : w.heap.size + 3 < w1.heap.size := by have := hb.size; simp at this; omega
    clear hb hbB
    go_wp2_with fail
    refine wp_region_still_tail 11 (by kernel_rfl) (by kernel_rfl) ?_
    simp only [List.take_succ_cons, List.take_zero, List.drop_succ_cons, List.drop_zero]
    repeat still_step
    still_call (HC.out _)
    repeat still_step
    refine wpStill_nil ?_
    change wpList _ _ _ _ _ w1.drew
    go_wp2_with fail
    refine (HS.out _ Hbw.out.drew pos c b hpl).mono ?_
    rintro e w3 ⟨v3, rfl, hown3, hb3⟩
    have hb13 := ((Below.refl w1.heap.size w1).drew).trans hb3
    have hB3 := HbB.out.trans (hb13.mono (by omega))
    have Hbw3 := Yq (Hbw.out.trans (hb13.mono Hbw.out.size))
    clear q0 q1 q2 q3 q4 q5 q6 q7 q8 q9 q10 q11 q12 q13 q14 q15 q16 q17 q18 q19 q20 q21 q22 q23 q24 q25 q26 q27 q28 q29 q30 q31 q32 q33 q34
    obtain ⟨q0, q1, q2, q3, q4, q5, q6, q7, q8, q9, q10, q11, q12, q13, q14, q15, q16, q17, q18, q19, q20, q21, q22, q23, q24, q25, q26, q27, q28, q29, q30, q31, q32, q33, q34⟩ := Hcell.out w3 hB3
    have hsz3 : w.heap.size + 3 < w3.heap.size := Nat.lt_of_lt_of_le hsz1 hb13.size
    have hF3 : FlatC 14 (fragE w3 (some (w.heap.size + 1 + 1 + 1) :: E)) v3 (spliceL_par pe pos c b ([.int .i64 ck, .int .u64 cn, .string ct, .slice ca1 cn1 cc1, .string cr, .slice ca2 cn2 cc2, .slice ca3 cn3 cc3] ++ [.int .i64 yk, .int .u64 yn, .string yt, .slice ya1 yn1 yc1, .string yr, .slice ya2 yn2 yc2, .slice ya3 yn3 yc3])) :=
     FlatC.of_owns hown3 rfl (Hlen.out pos c b) (own_notin hown3 (fun g hg => by
      have h2 := HE.out g
      simp only [List.mem_cons, Option.some.injEq] at hg
      have h3 := hsz1
      show g < w1.heap.size
      rcases hg with hg | hg
      ·omega
      ·have := h2 hg; omega))
    have HF3 := Yq hF3
    obtain ⟨a5, c5, rfl, _⟩ := hF3.len
    have hn5 := HLn.out pos c b
    have hn5' : (spliceL_par pe pos c b ([.int .i64 ck, .int .u64 cn, .string ct, .slice ca1 cn1 cc1, .string cr, .slice ca2 cn2 cc2, .slice ca3 cn3 cc3] ++ [.int .i64 yk, .int .u64 yn, .string yt, .slice ya1 yn1 yc1, .string yr, .slice ya2 yn2 yc2, .slice ya3 yn3 yc3])).length = nl := by rw [Hnl.out]; exact hn5
    clear hown3 hb3 hb13 hB3 hF3 hn5
    rw [hn5'] at HF3 ⊢
    clear hn5'
    have hz' : ((nl : Int) == 0) = false := by have := Hz.out; simp; omega
    go_wp2_with fail
    refine bodyPost_ret (v := .agg #[.int .i64 5, .int .u64 0, .string ⟨#[]⟩, .slice none 0 0, .string ⟨#[]⟩, .slice none 0 0, .slice a5 nl c5]) (by simp [results, Tryz.results104, go_sem, *]) rfl ⟨_, rfl, HR.out _ ?_ _ pos c b (HF3.out.mono ?_), ?_⟩
    ·exact (Below.setCell (Below.setCell (Below.setCell (Below.setCell (Below.setCell (Below.setCell (Below.setCell Hbw3.out (by show w.heap.size ≤ w.heap.size + 1 + 1 + 1; omega) _) (by show w.heap.size ≤ w.heap.size + 1 + 1 + 1; omega) _) (by show w.heap.size ≤ w.heap.size + 1 + 1 + 1; omega) _) (by show w.heap.size ≤ w.heap.size + 1 + 1 + 1; omega) _) (by show w.heap.size ≤ w.heap.size + 1 + 1 + 1; omega) _) (by show w.heap.size ≤ w.heap.size + 1 + 1 + 1; omega) _) (by show w.heap.size ≤ w.heap.size + 1 + 1 + 1; omega) _)
    ·exact setE (by simp) (setE (by simp) (setE (by simp) (setE (by simp) (setE (by simp) (setE (by simp) (setE (by simp) (subE _ (fun _ h => by simp [h]))))))))
    ·exact (Below.setCell (Below.setCell (Below.setCell (Below.setCell (Below.setCell (Below.setCell (Below.setCell Hbw3.out (by show w.heap.size ≤ w.heap.size + 1 + 1 + 1; omega) _) (by show w.heap.size ≤ w.heap.size + 1 + 1 + 1; omega) _) (by show w.heap.size ≤ w.heap.size + 1 + 1 + 1; omega) _) (by show w.heap.size ≤ w.heap.size + 1 + 1 + 1; omega) _) (by show w.heap.size ≤ w.heap.size + 1 + 1 + 1; omega) _) (by show w.heap.size ≤ w.heap.size + 1 + 1 + 1; omega) _) (by show w.heap.size ≤ w.heap.size + 1 + 1 + 1; omega) _)
 ·rw [if_neg hk]
  have e1 : (k != 5) = true := by simp; omega
  have e2 : (k != 0) = true := by simp; omega
  clear hk
  go_enter Tryz.func104, Tryz.ntmps104
  go_wp2_with fail
  exact bodyPost_ret (v := .agg #[.int .i64 k, .int .u64 n, .string t, .slice a1 n1 c1, .string r, .slice a2 n2 c2, .slice a3 n3 c3]) (by simp [results, Tryz.results104, go_sem, *]) rfl (Hsame.out _ (Below.alloc (Below.alloc (Below.alloc (Below.alloc (Below.refl w.heap.size w) (Nat.le_refl _) _) (by simp) _) (by simp; omega) _) (by simp; omega) _))
def zV : List Value := [.int .i64 0, .int .u64 0, .string ⟨#[]⟩, .slice none 0 0, .string ⟨#[]⟩, .slice none 0 0, .slice none 0 0]
def zE : List Value := .int .i64 0 :: (zV ++ (zV ++ [.slice none 0 0, .bool false, .string ⟨#[]⟩, .string ⟨#[]⟩, .slice none 0 0, .slice none 0 0]))
def zES : List Value := .int .i64 0 :: .int .i64 0 :: (zV ++ zE)
theorem zeroEF : (Tryz.prog.info? 60).map (·.zero) = some (some (.agg (Value.int .i64 0 :: zE).toArray)) := by kernel_rfl
theorem zeroES : (Tryz.prog.info? 81).map (·.zero) = some (some (.agg zES.toArray)) := by kernel_rfl
theorem zeroEK : (Tryz.prog.info? 64).map (·.zero) = some (some (.agg (zV ++ zE).toArray)) := by kernel_rfl
theorem infoV : (Tryz.prog.info? 27).map (·.size) = some 7 := by kernel_rfl
theorem infoE : (Tryz.prog.info? 32).map (·.size) = some 21 := by kernel_rfl
theorem infoEF : (Tryz.prog.info? 60).map (·.size) = some 22 := by kernel_rfl
theorem infoES : (Tryz.prog.info? 81).map (·.size) = some 30 := by kernel_rfl
theorem infoEK : (Tryz.prog.info? 64).map (·.size) = some 28 := by kernel_rfl
open Val (V E cmp right noneV partB bareE eright v0)
def Val.ownE : E → E
 | .mk k o n f r ro rn s ks => .mk k (if k = 1 then v0 else o) (if k = 1 then v0 else n) (if k = 2 then [] else f) (if k = 2 then false else r) (if k = 2 then ByteArray.empty else ro) (if k = 2 then ByteArray.empty else rn) (if k = 3 then [] else s) (if k = 4 then [] else ks)
def Val.bareAll : E → Bool
 | .mk k o n f r ro rn s ks => noneV o && (noneV n && (decide (f.length = 0) && (!r && (decide (ro.size + rn.size = 0) && (decide (s.length = 0) && decide (ks.length = 0))))))
theorem Val.bare_own (x : E) : Val.bareAll (Val.ownE x) = x.bare := by
 obtain ⟨k, o, n, f, r, ro, rn, s, ks⟩ := x
 unfold Val.ownE Val.bareAll Val.E.bare bareE
 by_cases h1 : k = 1
 ·subst h1; simp [Val.noneV_v0]
 ·by_cases h2 : k = 2
  ·subst h2; simp
  ·by_cases h3 : k = 3
   ·subst h3; simp
   ·by_cases h4 : k = 4
    ·subst h4; simp
    ·simp [h1, h2, h3, h4]
def z7 : List Value := [.int .i64 0, .int .u64 0, .string ⟨#[]⟩, .slice none 0 0, .string ⟨#[]⟩, .slice none 0 0, .slice none 0 0]
def RetE (w : World) (x : E) (e : Ending) (w' : World) : Prop := ∃ xc, e = .returned (.agg xc.toArray) ∧ ER (frag w') x xc ∧ Below w.heap.size w w'
theorem Ed21.one {e : List Value} (h : Ed21 e) : ∀ u ∈ e, u.oneCell' = true := by
 obtain ⟨k, x, y, a1, n1, c1, b, t, r, a2, n2, c2, a3, n3, c3, ⟨_, _, _, _, _, _, _, _, _, _, _, _, _, rfl⟩, ⟨_, _, _, _, _, _, _, _, _, _, _, _, _, rfl⟩, rfl⟩ := h
 simp [Value.oneCell']
theorem z7_one : ∀ u ∈ z7, u.oneCell' = true := by simp [z7, Value.oneCell']
theorem wpList_buildV {ops : Array Oper} {rest : List Oper} {o : Oper} {a : Act} {w : World} {Q : Exit → Act → World → Prop} (hg : o.guard = none) (ho : o.op = .build 27 #[])
  (h : wpList Tryz.prog ops Q rest (a.put o.dst (.agg z7.toArray)) w) : wpList Tryz.prog ops Q (o :: rest) a w := by
 have hb : Tryz.prog.built 27 [] = some z7.toArray := by kernel_rfl
 have e : ((#[] : Array (Nat × Operand)).map (fun (i, x) => (i, a.eval x))).toList = [] := by simp
 refine wpList_build hg _ _ ho ?_ ?_
 ·rw [e, hb]; rfl
 ·rw [e, hb]; exact h
theorem patch_old {k : Value} {oc nc tl z : List Value} (ho : oc.length = 7) (hz : z.length = 7) : patch (k :: (oc ++ (nc ++ tl))) 1 z = k :: (z ++ (nc ++ tl)) :=
 patch_at (p := [k]) (q := oc) rfl (by rw [ho, hz])
theorem patch_new {k : Value} {oc nc tl z : List Value} (ho : oc.length = 7) (hn : nc.length = 7) (hz : z.length = 7) : patch (k :: (oc ++ (nc ++ tl))) 8 z = k :: (oc ++ (z ++ tl)) :=
 patch_at (p := k :: oc) (q := nc) (by simp [ho]) (by rw [hn, hz])
theorem patch_tail {k : Value} {oc nc tl z : List Value} {o : Nat} (ho : oc.length = 7) (hn : nc.length = 7) : patch (k :: (oc ++ (nc ++ tl))) (15 + o) z = k :: (oc ++ (nc ++ patch tl o z)) := by
 unfold patch
 have e : k :: (oc ++ (nc ++ tl)) = (k :: (oc ++ nc)) ++ tl := by simp
 have hl : (k :: (oc ++ nc)).length = 15 := by simp [ho, hn]
 rw [e, List.take_append, List.drop_append, List.take_of_length_le (by omega), List.drop_of_length_le (by omega), hl]
 simp only [List.cons_append, List.append_assoc, List.nil_append]
 congr 7
 ·omega
 ·omega
structure Cells21 (xc : List Value) (k : Value) (oc nc : List Value) (fv rv rov rnv sv kv : Value) : Prop where
 eq : xc = k :: (oc ++ (nc ++ [fv, rv, rov, rnv, sv, kv]))
 lo : oc.length = 7
 ln : nc.length = 7
theorem Cells21.len {xc oc nc : List Value} {k fv rv rov rnv sv kv : Value} (h : Cells21 xc k oc nc fv rv rov rnv sv kv) : xc.length = 21 := by rw [h.eq]; simp [h.lo, h.ln]
theorem Cells21.c0 {xc oc nc : List Value} {k fv rv rov rnv sv kv : Value} (h : Cells21 xc k oc nc fv rv rov rnv sv kv) : xc[0]? = some k := by rw [h.eq]; rfl
theorem Cells21.tl {xc oc nc : List Value} {k fv rv rov rnv sv kv : Value} (h : Cells21 xc k oc nc fv rv rov rnv sv kv) (i : Nat) : xc[15 + i]? = [fv, rv, rov, rnv, sv, kv][i]? := by
 have e : xc = (k :: (oc ++ nc)) ++ [fv, rv, rov, rnv, sv, kv] := by rw [h.eq]; simp
 have hl : (k :: (oc ++ nc)).length = 15 := by simp [h.lo, h.ln]
 rw [e, List.getElem?_append_right (by omega), hl]; congr 1; omega
theorem patch_one {cs vs : List Value} {o : Nat} (h : ∀ u ∈ cs, u.oneCell' = true) (h2 : ∀ u ∈ vs, u.oneCell' = true) : ∀ u ∈ patch cs o vs, u.oneCell' = true := by
 intro u hu
 unfold patch at hu
 rcases List.mem_append.1 hu with hu | hu
 ·exact h u (List.mem_of_mem_take hu)
 ·rcases List.mem_append.1 hu with hu | hu
  ·exact h2 u hu
  ·exact h u (List.mem_of_mem_drop hu)
theorem eown1 (xc : List Value) (w : World) (hl : xc.length = 21) (ho : ∀ u ∈ xc, u.oneCell' = true) (h0 : xc[0]? = some (.int .i64 1)) :
  Calls Tryz.prog 41 #[.agg xc.toArray] w fun e w' => e = .returned (.agg (patch (patch xc 1 z7) 8 z7).toArray) ∧ Below w.heap.size w w' := by
 have HL0 := Yq hl
 have HL1 : Hid ((patch xc 1 z7).length = 21) := (patch_len (by rw [HL0.out]; decide)).trans HL0.out
 have HL2 : Hid ((patch (patch xc 1 z7) 8 z7).length = 21) := (patch_len (by rw [HL1.out]; decide)).trans HL1.out
 have H1 : Hid (∀ u ∈ (patch (patch xc 1 z7) 8 z7), u.oneCell' = true) := (patch_one (o := 8) (patch_one (o := 1) ho (by first | exact z7_one | simp [Value.oneCell'])) (by first | exact z7_one | simp [Value.oneCell']))
 clear ho hl
 go_enter Tryz.func41, Tryz.ntmps41
 go_wp2_with (first
  | (refine wpList_buildV rfl rfl ?_)
  | (refine wpList_load_first rfl 32 _ rfl rfl _ Tryz.underlying32 rfl (iC infoE HL2) ?_)
  | (refine wpList_store_new rfl 32 _ _ rfl _ rfl _ rfl (World.size_alloc _ _) ?_ ?_ ?_ ?_; (· exact iC infoE HL2); (· exact HL2.out.symm); (· exact H1.out))
  | (refine wpList_store_first rfl _ _ _ rfl _ _ rfl rfl ?_ ?_ ?_ ?_; (· exact infoV); (· first | (exact Nat.le_trans (show _ ≤ 21 by decide) (Nat.le_of_eq HL0.out.symm)) | (exact Nat.le_trans (show _ ≤ 21 by decide) (Nat.le_of_eq HL1.out.symm))); (· exact z7_one)))
 refine bodyPost_ret (v := .agg (patch (patch xc 1 z7) 8 z7).toArray) ?_ rfl ⟨rfl, ((Below.refl _ _).alloc (Nat.le_refl _) _).alloc (by simp) _⟩
 refine results_blk rfl _ _ (w.heap.size + 1) _ ?_ ?_ _ Tryz.underlying32 rfl ?_
 ·rfl
 ·exact ⟨_, heap_alloc2_new _ _ _⟩
 ·rw [HL2.out]; exact infoE
theorem eown2 (xc : List Value) (w : World) (hl : xc.length = 21) (ho : ∀ u ∈ xc, u.oneCell' = true) (h0 : xc[0]? = some (.int .i64 2)) :
  Calls Tryz.prog 41 #[.agg xc.toArray] w fun e w' => e = .returned (.agg (patch (patch (patch (patch xc 15 [.slice none 0 0]) 16 [.bool false]) 17 [.string ⟨#[]⟩]) 18 [.string ⟨#[]⟩]).toArray) ∧ Below w.heap.size w w' := by
 have HL0 := Yq hl
 have HL1 : Hid ((patch xc 15 [.slice none 0 0]).length = 21) := (patch_len (by rw [HL0.out]; decide)).trans HL0.out
 have HL2 : Hid ((patch (patch xc 15 [.slice none 0 0]) 16 [.bool false]).length = 21) := (patch_len (by rw [HL1.out]; decide)).trans HL1.out
 have HL3 : Hid ((patch (patch (patch xc 15 [.slice none 0 0]) 16 [.bool false]) 17 [.string ⟨#[]⟩]).length = 21) := (patch_len (by rw [HL2.out]; decide)).trans HL2.out
 have HL4 : Hid ((patch (patch (patch (patch xc 15 [.slice none 0 0]) 16 [.bool false]) 17 [.string ⟨#[]⟩]) 18 [.string ⟨#[]⟩]).length = 21) := (patch_len (by rw [HL3.out]; decide)).trans HL3.out
 have H1 : Hid (∀ u ∈ (patch (patch (patch (patch xc 15 [.slice none 0 0]) 16 [.bool false]) 17 [.string ⟨#[]⟩]) 18 [.string ⟨#[]⟩]), u.oneCell' = true) := (patch_one (o := 18) (patch_one (o := 17) (patch_one (o := 16) (patch_one (o := 15) ho (by first | exact z7_one | simp [Value.oneCell'])) (by first | exact z7_one | simp [Value.oneCell'])) (by first | exact z7_one | simp [Value.oneCell'])) (by first | exact z7_one | simp [Value.oneCell']))
 clear ho hl
 go_enter Tryz.func41, Tryz.ntmps41
 go_wp2_with (first
  | (refine wpList_buildV rfl rfl ?_)
  | (refine wpList_load_first rfl 32 _ rfl rfl _ Tryz.underlying32 rfl (iC infoE HL4) ?_)
  | (refine wpList_store_new rfl 32 _ _ rfl _ rfl _ rfl (World.size_alloc _ _) ?_ ?_ ?_ ?_; (· exact iC infoE HL4); (· exact HL4.out.symm); (· exact H1.out))
  | (refine wpList_store_first1 rfl _ _ _ rfl _ _ rfl rfl ?_ ?_ ?_ ?_; (· kernel_rfl); (· first | (exact Nat.le_trans (show _ ≤ 21 by decide) (Nat.le_of_eq HL0.out.symm)) | (exact Nat.le_trans (show _ ≤ 21 by decide) (Nat.le_of_eq HL1.out.symm)) | (exact Nat.le_trans (show _ ≤ 21 by decide) (Nat.le_of_eq HL2.out.symm)) | (exact Nat.le_trans (show _ ≤ 21 by decide) (Nat.le_of_eq HL3.out.symm))); (· rfl)))
 refine bodyPost_ret (v := .agg (patch (patch (patch (patch xc 15 [.slice none 0 0]) 16 [.bool false]) 17 [.string ⟨#[]⟩]) 18 [.string ⟨#[]⟩]).toArray) ?_ rfl ⟨rfl, ((Below.refl _ _).alloc (Nat.le_refl _) _).alloc (by simp) _⟩
 refine results_blk rfl _ _ (w.heap.size + 1) _ ?_ ?_ _ Tryz.underlying32 rfl ?_
 ·rfl
 ·exact ⟨_, heap_alloc2_new _ _ _⟩
 ·rw [HL4.out]; exact infoE
theorem eown3 (xc : List Value) (w : World) (hl : xc.length = 21) (ho : ∀ u ∈ xc, u.oneCell' = true) (h0 : xc[0]? = some (.int .i64 3)) :
  Calls Tryz.prog 41 #[.agg xc.toArray] w fun e w' => e = .returned (.agg (patch xc 19 [.slice none 0 0]).toArray) ∧ Below w.heap.size w w' := by
 have HL0 := Yq hl
 have HL1 : Hid ((patch xc 19 [.slice none 0 0]).length = 21) := (patch_len (by rw [HL0.out]; decide)).trans HL0.out
 have H1 : Hid (∀ u ∈ (patch xc 19 [.slice none 0 0]), u.oneCell' = true) := (patch_one (o := 19) ho (by first | exact z7_one | simp [Value.oneCell']))
 clear ho hl
 go_enter Tryz.func41, Tryz.ntmps41
 go_wp2_with (first
  | (refine wpList_buildV rfl rfl ?_)
  | (refine wpList_load_first rfl 32 _ rfl rfl _ Tryz.underlying32 rfl (iC infoE HL1) ?_)
  | (refine wpList_store_new rfl 32 _ _ rfl _ rfl _ rfl (World.size_alloc _ _) ?_ ?_ ?_ ?_; (· exact iC infoE HL1); (· exact HL1.out.symm); (· exact H1.out))
  | (refine wpList_store_first1 rfl _ _ _ rfl _ _ rfl rfl ?_ ?_ ?_ ?_; (· kernel_rfl); (· first | (exact Nat.le_trans (show _ ≤ 21 by decide) (Nat.le_of_eq HL0.out.symm))); (· rfl)))
 refine bodyPost_ret (v := .agg (patch xc 19 [.slice none 0 0]).toArray) ?_ rfl ⟨rfl, ((Below.refl _ _).alloc (Nat.le_refl _) _).alloc (by simp) _⟩
 refine results_blk rfl _ _ (w.heap.size + 1) _ ?_ ?_ _ Tryz.underlying32 rfl ?_
 ·rfl
 ·exact ⟨_, heap_alloc2_new _ _ _⟩
 ·rw [HL1.out]; exact infoE
theorem eown4 (xc : List Value) (w : World) (hl : xc.length = 21) (ho : ∀ u ∈ xc, u.oneCell' = true) (h0 : xc[0]? = some (.int .i64 4)) :
  Calls Tryz.prog 41 #[.agg xc.toArray] w fun e w' => e = .returned (.agg (patch xc 20 [.slice none 0 0]).toArray) ∧ Below w.heap.size w w' := by
 have HL0 := Yq hl
 have HL1 : Hid ((patch xc 20 [.slice none 0 0]).length = 21) := (patch_len (by rw [HL0.out]; decide)).trans HL0.out
 have H1 : Hid (∀ u ∈ (patch xc 20 [.slice none 0 0]), u.oneCell' = true) := (patch_one (o := 20) ho (by first | exact z7_one | simp [Value.oneCell']))
 clear ho hl
 go_enter Tryz.func41, Tryz.ntmps41
 go_wp2_with (first
  | (refine wpList_buildV rfl rfl ?_)
  | (refine wpList_load_first rfl 32 _ rfl rfl _ Tryz.underlying32 rfl (iC infoE HL1) ?_)
  | (refine wpList_store_new rfl 32 _ _ rfl _ rfl _ rfl (World.size_alloc _ _) ?_ ?_ ?_ ?_; (· exact iC infoE HL1); (· exact HL1.out.symm); (· exact H1.out))
  | (refine wpList_store_first1 rfl _ _ _ rfl _ _ rfl rfl ?_ ?_ ?_ ?_; (· kernel_rfl); (· first | (exact Nat.le_trans (show _ ≤ 21 by decide) (Nat.le_of_eq HL0.out.symm))); (· rfl)))
 refine bodyPost_ret (v := .agg (patch xc 20 [.slice none 0 0]).toArray) ?_ rfl ⟨rfl, ((Below.refl _ _).alloc (Nat.le_refl _) _).alloc (by simp) _⟩
 refine results_blk rfl _ _ (w.heap.size + 1) _ ?_ ?_ _ Tryz.underlying32 rfl ?_
 ·rfl
 ·exact ⟨_, heap_alloc2_new _ _ _⟩
 ·rw [HL1.out]; exact infoE
theorem eown0 (k : Int) (xc : List Value) (w : World) (hl : xc.length = 21) (ho : ∀ u ∈ xc, u.oneCell' = true) (h0 : xc[0]? = some (.int .i64 k)) (h1 : (k == 1) = false) (h2 : (k == 2) = false) (h3 : (k == 3) = false) (h4 : (k == 4) = false) :
  Calls Tryz.prog 41 #[.agg xc.toArray] w fun e w' => e = .returned (.agg xc.toArray) ∧ Below w.heap.size w w' := by
 have HL0 := Yq hl
 have H1 : Hid (∀ u ∈ xc, u.oneCell' = true) := ho
 clear ho hl
 go_enter Tryz.func41, Tryz.ntmps41
 go_wp2_with (first
  | (refine wpList_buildV rfl rfl ?_)
  | (refine wpList_load_first rfl 32 _ rfl rfl _ Tryz.underlying32 rfl (iC infoE HL0) ?_)
  | (refine wpList_store_new rfl 32 _ _ rfl _ rfl _ rfl (World.size_alloc _ _) ?_ ?_ ?_ ?_; (· exact iC infoE HL0); (· exact HL0.out.symm); (· exact H1.out))
  | (refine wpList_store_first1 rfl _ _ _ rfl _ _ rfl rfl ?_ ?_ ?_ ?_; (· kernel_rfl); (· first | (exact Nat.le_trans (show _ ≤ 21 by decide) (Nat.le_of_eq HL0.out.symm))); (· rfl)))
 refine bodyPost_ret (v := .agg xc.toArray) ?_ rfl ⟨rfl, ((Below.refl _ _).alloc (Nat.le_refl _) _).alloc (by simp) _⟩
 refine results_blk rfl _ _ (w.heap.size + 1) _ ?_ ?_ _ Tryz.underlying32 rfl ?_
 ·rfl
 ·exact ⟨_, heap_alloc2_new _ _ _⟩
 ·rw [HL0.out]; exact infoE
theorem eown_any (x : E) (xc : List Value) (w : World) (hx : ER (frag w) x xc) : Calls Tryz.prog 41 #[.agg xc.toArray] w (RetE w (Val.ownE x)) := by
 have hl := hx.shape.len
 have ho := hx.shape.one
 obtain ⟨k, o, n, f, r, ro, rn, s, ks⟩ := x
 rw [ER] at hx
 obtain ⟨oc, nc, fv, sv, kv, fe, se, ke, rfl, h2, ⟨h3, h4⟩, ⟨h5, h6, h7⟩, h8, h9, h10⟩ := hx
 have lo := h3.len
 have ln := h4.len
 have h0 : (Value.int .i64 k :: (oc ++ (nc ++ [fv, .bool r, .string ro, .string rn, sv, kv])))[0]? = some (.int .i64 k) := rfl
 have fin : ∀ w1, Below w.heap.size w w1 → RetE w (Val.ownE (.mk k o n f r ro rn s ks)) (.returned (.agg (Value.int .i64 k :: ((if k = 1 then z7 else oc) ++ ((if k = 1 then z7 else nc) ++ [if k = 2 then .slice none 0 0 else fv, if k = 2 then .bool false else .bool r, if k = 2 then .string ⟨#[]⟩ else .string ro, if k = 2 then .string ⟨#[]⟩ else .string rn, if k = 3 then .slice none 0 0 else sv, if k = 4 then .slice none 0 0 else kv]))).toArray)) w1 := by
  intro w1 hb
  have hle := below_le hb
  refine ⟨_, rfl, ?_, hb⟩
  unfold Val.ownE
  rw [ER]
  refine ⟨if k = 1 then z7 else oc, if k = 1 then z7 else nc, if k = 2 then .slice none 0 0 else fv, if k = 3 then .slice none 0 0 else sv, if k = 4 then .slice none 0 0 else kv, if k = 2 then [] else fe, if k = 3 then [] else se, if k = 4 then [] else ke, ?_, ?_, ?_, ?_, ?_, ?_, ?_⟩
  ·by_cases h2 : k = 2
   ·subst h2; rfl
   ·simp [h2]
  ·by_cases h2 : k = 2
   ·subst h2; exact ⟨Nat.zero_le _, Nat.zero_le _⟩
   ·simpa [h2] using ‹_›
  ·by_cases h1 : k = 1
   ·subst h1; exact ⟨VR.zero _, VR.zero _⟩
   ·simp only [h1, if_false]; exact ⟨h3.mono hle, h4.mono hle⟩
  ·refine ⟨?_, ?_, ?_⟩
   ·split
    ·exact FlatC.nil _ _
    ·exact h5.mono hle
   ·split
    ·exact FlatC.nil _ _
    ·exact h6.mono hle
   ·split
    ·exact FlatC.nil _ _
    ·exact h7.mono hle
  ·split
   ·rw [EFs]
   ·exact h8.mono hle
  ·split
   ·rw [ESs]
   ·exact h9.mono hle
  ·split
   ·rw [EKs]
   ·exact h10.mono hle
 by_cases c1 : k = 1
 ·subst c1
  refine (eown1 _ w hl ho h0).mono ?_
  rintro e w1 ⟨rfl, hb⟩
  have := fin w1 hb
  rw [patch_old lo rfl, patch_new rfl ln rfl]
  exact this
 ·by_cases c2 : k = 2
  ·subst c2
   refine (eown2 _ w hl ho h0).mono ?_
   rintro e w1 ⟨rfl, hb⟩
   have := fin w1 hb
   rw [patch_tail (o := 0) lo ln, patch_tail (o := 1) lo ln, patch_tail (o := 2) lo ln, patch_tail (o := 3) lo ln]
   exact this
  ·by_cases c3 : k = 3
   ·subst c3
    refine (eown3 _ w hl ho h0).mono ?_
    rintro e w1 ⟨rfl, hb⟩
    have := fin w1 hb
    rw [patch_tail (o := 4) lo ln]
    exact this
   ·by_cases c4 : k = 4
    ·subst c4
     refine (eown4 _ w hl ho h0).mono ?_
     rintro e w1 ⟨rfl, hb⟩
     have := fin w1 hb
     rw [patch_tail (o := 5) lo ln]
     exact this
    ·refine (eown0 k _ w hl ho h0 (by simpa using c1) (by simpa using c2) (by simpa using c3) (by simpa using c4)).mono ?_
     rintro e w1 ⟨rfl, hb⟩
     have := fin w1 hb
     simp only [c1, c2, c3, c4, if_false] at this
     exact this
end Go.Proofs.YtlmbcoecipbblaaGreatDoor
