/- value.With, walked. -/
import Derived.Test.YtlmbcoecipbblaaGreatDoorGpJ
import Derived.StillTailTactics
set_option maxRecDepth 100000
set_option maxHeartbeats 4000000
set_option linter.unusedVariables false
set_option linter.unusedSimpArgs false
namespace Go.Proofs.YtlmbcoecipbblaaGreatDoor
open Go.RowKit
open Val (V cmp ocmp cF posF hitF cP posP hitP get find withV putV putP spl one MonoN v0)
theorem FsR.append {h : Frag} : ∀ {xs ys : List (Int × V)} {es gs : List (List Value)}, FsR h xs es → FsR h ys gs → FsR h (xs ++ ys) (es ++ gs)
 | [], ys, es, gs, h1, h2 => by rw [FsR] at h1; subst h1; exact h2
 | (n, x) :: r, ys, es, gs, h1, h2 => by
  rw [FsR] at h1
  obtain ⟨xc, er, rfl, h3, h4⟩ := h1
  simp only [List.cons_append]; rw [FsR]
  exact ⟨xc, _, rfl, h3, h4.append h2⟩
theorem FsR.part {h : Frag} : ∀ {xs : List (Int × V)} {es : List (List Value)} (k : Nat), FsR h xs es → FsR h (xs.take k) (es.take k) ∧ FsR h (xs.drop k) (es.drop k)
 | xs, es, 0, h1 => by simp only [List.take_zero, List.drop_zero]; exact ⟨by rw [FsR], h1⟩
 | [], es, k + 1, h1 => by rw [FsR] at h1; subst h1; simp only [List.take_nil, List.drop_nil]; exact ⟨by rw [FsR], by rw [FsR]⟩
 | (n, x) :: r, es, k + 1, h1 => by
  rw [FsR] at h1
  obtain ⟨xc, er, rfl, h3, h4⟩ := h1
  have := h4.part k
  simp only [List.take_succ_cons, List.drop_succ_cons]
  refine ⟨?_, this.2⟩
  rw [FsR]; exact ⟨xc, _, rfl, h3, this.1⟩
theorem FsR.splice {h : Frag} {xs : List (Int × V)} {es : List (List Value)} {n : Int} {y : V} {yc : List Value} (a m : Nat) (b : Bool) (h1 : FsR h xs es) (h2 : VR h y yc) : FsR h (spl xs a m b (n, y)) (spliceL_fld es a m b (.int .i64 n :: yc)) := by
 unfold spl spliceL_fld
 refine (h1.part a).1.append (FsR.append ?_ (h1.part (a + m)).2)
 cases b
 ·simp only [Bool.false_eq_true, if_false]; rw [FsR]
 ·simp only [if_true]; rw [FsR]; exact ⟨yc, [], rfl, h2, by rw [FsR]⟩
theorem PsR.append {h : Frag} : ∀ {xs ys : List (V × V)} {es gs : List (List Value)}, PsR h xs es → PsR h ys gs → PsR h (xs ++ ys) (es ++ gs)
 | [], ys, es, gs, h1, h2 => by rw [PsR] at h1; subst h1; exact h2
 | (n, x) :: r, ys, es, gs, h1, h2 => by
  rw [PsR] at h1
  obtain ⟨kc, xc, er, rfl, h3, h4, h5⟩ := h1
  simp only [List.cons_append]; rw [PsR]
  exact ⟨kc, xc, _, rfl, h3, h4, h5.append h2⟩
theorem PsR.part {h : Frag} : ∀ {xs : List (V × V)} {es : List (List Value)} (k : Nat), PsR h xs es → PsR h (xs.take k) (es.take k) ∧ PsR h (xs.drop k) (es.drop k)
 | xs, es, 0, h1 => by simp only [List.take_zero, List.drop_zero]; exact ⟨by rw [PsR], h1⟩
 | [], es, k + 1, h1 => by rw [PsR] at h1; subst h1; simp only [List.take_nil, List.drop_nil]; exact ⟨by rw [PsR], by rw [PsR]⟩
 | (n, x) :: r, es, k + 1, h1 => by
  rw [PsR] at h1
  obtain ⟨kc, xc, er, rfl, h3, h4, h5⟩ := h1
  have := h5.part k
  simp only [List.take_succ_cons, List.drop_succ_cons]
  refine ⟨?_, this.2⟩
  rw [PsR]; exact ⟨kc, xc, _, rfl, h3, h4, this.1⟩
theorem PsR.splice {h : Frag} {xs : List (V × V)} {es : List (List Value)} {k y : V} {kc yc : List Value} (a m : Nat) (b : Bool) (h1 : PsR h xs es) (h0 : VR h k kc) (h2 : VR h y yc) : PsR h (spl xs a m b (k, y)) (spliceL_par es a m b (kc ++ yc)) := by
 unfold spl spliceL_par
 refine (h1.part a).1.append (PsR.append ?_ (h1.part (a + m)).2)
 cases b
 ·simp only [Bool.false_eq_true, if_false]; rw [PsR]
 ·simp only [if_true]; rw [PsR]; exact ⟨kc, yc, [], rfl, h0, h2, by rw [PsR]⟩
theorem own_notin {w : World} {base : Nat} {e : TypeId} {size n : Nat} {v : Value} {xs : List Value} {E : List (Option Nat)} (h : w.ownsRow base e size v n xs) (hE : ∀ k, some k ∈ E → k < base) : v.ownBlock = none ∨ ¬ v.ownBlock ∈ E := by
 cases hv : v.ownBlock with
 | none => exact .inl rfl
 | some g => exact .inr (fun hm => by have := (h.lt g hv).1; have := hE g hm; omega)
theorem setE {w : World} {h' : Frag} {E : List (Option Nat)} {p : Addr} {u : Value} (h : some p.block ∈ E) (h2 : FLe (fragE (w.setCell p u) E) h') : FLe (fragE w E) h' :=
 (grownE (grown_setCell w p u) (.inr h) (fun k hk => .inl hk)).trans h2
theorem splice_len8 {es : List (List Value)} {a m : Nat} {b : Bool} {x : List Value} {s : Nat} (h : ∀ e ∈ es, e.length = s) (hx : x.length = s) : ∀ e ∈ spliceL_fld es a m b x, e.length = s := by
 intro e he
 unfold spliceL_fld at he
 rcases List.mem_append.1 he with he | he
 ·exact h e (List.mem_of_mem_take he)
 ·rcases List.mem_append.1 he with he | he
  ·cases b
   ·simp at he
   ·simp at he; rw [he]; exact hx
  ·exact h e (List.mem_of_mem_drop he)
theorem splice_len14 {es : List (List Value)} {a m : Nat} {b : Bool} {x : List Value} {s : Nat} (h : ∀ e ∈ es, e.length = s) (hx : x.length = s) : ∀ e ∈ spliceL_par es a m b x, e.length = s := by
 intro e he
 unfold spliceL_par at he
 rcases List.mem_append.1 he with he | he
 ·exact h e (List.mem_of_mem_take he)
 ·rcases List.mem_append.1 he with he | he
  ·cases b
   ·simp at he
   ·simp at he; rw [he]; exact hx
  ·exact h e (List.mem_of_mem_drop he)
theorem with_any (x y : V) (num : Int) (xc yc : List Value) (w : World) (E : List (Option Nat)) (hE : ∀ k, some k ∈ E → k < w.heap.size) (hx : VR (fragE w E) x xc) (hy : VR (fragE w E) y yc) (hm : MonoN (cF x.fields num) x.fields.length) (hl : x.fields.length < 100000) :
  Calls Tryz.prog 100 #[.agg xc.toArray, .int .i64 num, .agg yc.toArray] w (RetV E w (withV x num y)) := by
 have HP := Yq (fun (wx : World) (hb : Below w.heap.size w wx) => place_any x num xc wx ((hx.mono (fragE_le w E)).mono (below_le hb)) hm (Nat.lt_trans hl (by decide)))
 have HE := Yq hE; clear hE
 have Hx := Yq hx
 obtain ⟨k, n, t, f, r, l, p⟩ := x
 rw [VR] at hx
 obtain ⟨fv, lv, pv, fe, le, pe, rfl, hsz, ⟨hf, hl', hp⟩, hF, hL, hP⟩ := hx
 obtain ⟨yn, yt, yr, ya1, yn1, yc1, ya2, yn2, yc2, ya3, yn3, yc3, rfl⟩ := hy.shapeK
 obtain ⟨a1, c1, rfl, g1, g2, _⟩ := hf.len
 obtain ⟨a2, c2, rfl, _⟩ := hl'.len
 obtain ⟨a3, c3, rfl, _⟩ := hp.len
 have hl : f.length < 100000 := hl
 have hg : withV (.mk k n t f r l p) num y = if k = 3 ∧ 1 ≤ num ∧ num ≤ 536870911 then .mk k n t (spl f (posF f num) (one (hitF f num)) (decide (y.kind ≠ 0)) (num, y)) r l p else .mk k n t f r l p := rfl
 rw [hg]
 have hpl := Val.posF_le f num
 have HP2 : Hid (∀ (wx : World), Below w.heap.size w wx → Calls Tryz.prog 107 #[.agg #[.int .i64 k, .int .u64 n, .string t, .slice a1 fe.length c1, .string r, .slice a2 le.length c2, .slice a3 pe.length c3], .int .i64 num] wx fun e w' => e = .returned (.tuple #[.int .i64 (posF f num : Nat), .bool (hitF f num)]) ∧ Below wx.heap.size wx w') := HP.out
 have HS := Yq (fun (wx : World) (hb : Below w.heap.size w wx) (pos many : Nat) (b : Bool) (hpm : pos + many ≤ f.length) => spliced_fld _ fe pos many b (.int .i64 num :: [.int .i64 y.kind, .int .u64 yn, .string yt, .slice ya1 yn1 yc1, .string yr, .slice ya2 yn2 yc2, .slice ya3 yn3 yc3]) wx ((hf.mono (fragE_le w E)).mono (below_le hb)) hF.shapes (by rw [hF.len]; omega) (by rw [hF.len]; exact hpm) ⟨num, _, hy.shape, rfl⟩)
 have HR := Yq (fun (wz : World) (hb : Below w.heap.size w wz) (v3 : Value) (pos many : Nat) (b : Bool) (h3 : FlatC 8 (fragE wz E) v3 (spliceL_fld fe pos many b (.int .i64 num :: [.int .i64 y.kind, .int .u64 yn, .string yt, .slice ya1 yn1 yc1, .string yr, .slice ya2 yn2 yc2, .slice ya3 yn3 yc3]))) =>
  (show VR (fragE wz E) (.mk k n t (spl f pos many b (num, y)) r l p) [.int .i64 k, .int .u64 n, .string t, v3, .string r, .slice a2 le.length c2, .slice a3 pe.length c3] by
   rw [VR]
   have hle : FLe (fragE w E) (fragE wz E) := belowE hb (fun _ h => .inl h)
   exact ⟨v3, _, _, _, le, pe, rfl, hsz, ⟨h3, hl'.mono hle, hp.mono hle⟩, FsR.splice pos many b (hF.mono hle) (hy.mono hle), hL.mono hle, hP.mono hle⟩))
 have Hlen := Yq (fun (pos many : Nat) (b : Bool) => splice_len8 (a := pos) (m := many) (b := b) (x := .int .i64 num :: [.int .i64 y.kind, .int .u64 yn, .string yt, .slice ya1 yn1 yc1, .string yr, .slice ya2 yn2 yc2, .slice ya3 yn3 yc3]) hf.sizes rfl)
 obtain ⟨yk, hyk⟩ : ∃ yk, yk = y.kind := ⟨_, rfl⟩
 rw [← hyk] at HS HR Hlen ⊢
 clear HP hf hl' hp hF hL hP hm hg hy hyk hsz
 generalize posF f num = pos at *
 generalize hitF f num = hit at *
 generalize fe.length = n1 at *
 generalize le.length = n2 at *
 generalize pe.length = n3 at *
 have hcell : ∀ w1 : World, Below (w.heap.size + 3) (((w.alloc (.cells #[.int .i64 k, .int .u64 n, .string t, .slice a1 n1 c1, .string r, .slice a2 n2 c2, .slice a3 n3 c3] 27)).alloc (.cells #[.int .i64 yk, .int .u64 yn, .string yt, .slice ya1 yn1 yc1, .string yr, .slice ya2 yn2 yc2, .slice ya3 yn3 yc3] 27)).alloc (.cells #[.int .i64 0, .int .u64 0, .string ⟨#[]⟩, .slice none 0 0, .string ⟨#[]⟩, .slice none 0 0, .slice none 0 0] 27)) w1 → w1.cell? ⟨w.heap.size, 0, none⟩ = some (.int .i64 k) ∧ w1.cell? ⟨w.heap.size, 1, none⟩ = some (.int .u64 n) ∧ w1.cell? ⟨w.heap.size, 2, none⟩ = some (.string t) ∧ w1.cell? ⟨w.heap.size, 3, none⟩ = some (.slice a1 n1 c1) ∧ w1.cell? ⟨w.heap.size, 4, none⟩ = some (.string r) ∧ w1.cell? ⟨w.heap.size, 5, none⟩ = some (.slice a2 n2 c2) ∧ w1.cell? ⟨w.heap.size, 6, none⟩ = some (.slice a3 n3 c3) ∧ w1.frozen? ⟨w.heap.size, 0, none⟩ = false ∧ w1.frozen? ⟨w.heap.size, 1, none⟩ = false ∧ w1.frozen? ⟨w.heap.size, 2, none⟩ = false ∧ w1.frozen? ⟨w.heap.size, 3, none⟩ = false ∧ w1.frozen? ⟨w.heap.size, 4, none⟩ = false ∧ w1.frozen? ⟨w.heap.size, 5, none⟩ = false ∧ w1.frozen? ⟨w.heap.size, 6, none⟩ = false ∧ w1.cell? ⟨w.heap.size + 1, 0, none⟩ = some (.int .i64 yk) ∧ w1.cell? ⟨w.heap.size + 1, 1, none⟩ = some (.int .u64 yn) ∧ w1.cell? ⟨w.heap.size + 1, 2, none⟩ = some (.string yt) ∧ w1.cell? ⟨w.heap.size + 1, 3, none⟩ = some (.slice ya1 yn1 yc1) ∧ w1.cell? ⟨w.heap.size + 1, 4, none⟩ = some (.string yr) ∧ w1.cell? ⟨w.heap.size + 1, 5, none⟩ = some (.slice ya2 yn2 yc2) ∧ w1.cell? ⟨w.heap.size + 1, 6, none⟩ = some (.slice ya3 yn3 yc3) ∧ w1.cell? ⟨w.heap.size + 1 + 1, 0, none⟩ = some (.int .i64 0) ∧ w1.cell? ⟨w.heap.size + 1 + 1, 1, none⟩ = some (.int .u64 0) ∧ w1.cell? ⟨w.heap.size + 1 + 1, 2, none⟩ = some (.string ⟨#[]⟩) ∧ w1.cell? ⟨w.heap.size + 1 + 1, 3, none⟩ = some (.slice none 0 0) ∧ w1.cell? ⟨w.heap.size + 1 + 1, 4, none⟩ = some (.string ⟨#[]⟩) ∧ w1.cell? ⟨w.heap.size + 1 + 1, 5, none⟩ = some (.slice none 0 0) ∧ w1.cell? ⟨w.heap.size + 1 + 1, 6, none⟩ = some (.slice none 0 0) ∧ w1.frozen? ⟨w.heap.size + 1 + 1, 0, none⟩ = false ∧ w1.frozen? ⟨w.heap.size + 1 + 1, 1, none⟩ = false ∧ w1.frozen? ⟨w.heap.size + 1 + 1, 2, none⟩ = false ∧ w1.frozen? ⟨w.heap.size + 1 + 1, 3, none⟩ = false ∧ w1.frozen? ⟨w.heap.size + 1 + 1, 4, none⟩ = false ∧ w1.frozen? ⟨w.heap.size + 1 + 1, 5, none⟩ = false ∧ w1.frozen? ⟨w.heap.size + 1 + 1, 6, none⟩ = false := by
  intro w1 hb
  refine ⟨?_, ?_, ?_, ?_, ?_, ?_, ?_, ?_, ?_, ?_, ?_, ?_, ?_, ?_, ?_, ?_, ?_, ?_, ?_, ?_, ?_, ?_, ?_, ?_, ?_, ?_, ?_, ?_, ?_, ?_, ?_, ?_, ?_, ?_, ?_⟩
  ·rw [hb.cell (by dsimp only; omega), World.cell?_alloc_past _ _ _ (by simp only [World.size_alloc]; omega), World.cell?_alloc_past _ _ _ (by simp only [World.size_alloc]; omega), World.cell?_alloc_at _ _ _ _ rfl]; rfl
  ·rw [hb.cell (by dsimp only; omega), World.cell?_alloc_past _ _ _ (by simp only [World.size_alloc]; omega), World.cell?_alloc_past _ _ _ (by simp only [World.size_alloc]; omega), World.cell?_alloc_at _ _ _ _ rfl]; rfl
  ·rw [hb.cell (by dsimp only; omega), World.cell?_alloc_past _ _ _ (by simp only [World.size_alloc]; omega), World.cell?_alloc_past _ _ _ (by simp only [World.size_alloc]; omega), World.cell?_alloc_at _ _ _ _ rfl]; rfl
  ·rw [hb.cell (by dsimp only; omega), World.cell?_alloc_past _ _ _ (by simp only [World.size_alloc]; omega), World.cell?_alloc_past _ _ _ (by simp only [World.size_alloc]; omega), World.cell?_alloc_at _ _ _ _ rfl]; rfl
  ·rw [hb.cell (by dsimp only; omega), World.cell?_alloc_past _ _ _ (by simp only [World.size_alloc]; omega), World.cell?_alloc_past _ _ _ (by simp only [World.size_alloc]; omega), World.cell?_alloc_at _ _ _ _ rfl]; rfl
  ·rw [hb.cell (by dsimp only; omega), World.cell?_alloc_past _ _ _ (by simp only [World.size_alloc]; omega), World.cell?_alloc_past _ _ _ (by simp only [World.size_alloc]; omega), World.cell?_alloc_at _ _ _ _ rfl]; rfl
  ·rw [hb.cell (by dsimp only; omega), World.cell?_alloc_past _ _ _ (by simp only [World.size_alloc]; omega), World.cell?_alloc_past _ _ _ (by simp only [World.size_alloc]; omega), World.cell?_alloc_at _ _ _ _ rfl]; rfl
  ·rw [hb.frozen (by dsimp only; omega), World.frozen?_alloc_past _ _ _ (by simp only [World.size_alloc]; omega), World.frozen?_alloc_past _ _ _ (by simp only [World.size_alloc]; omega), World.frozen?_alloc_at _ _ _ _ rfl]
  ·rw [hb.frozen (by dsimp only; omega), World.frozen?_alloc_past _ _ _ (by simp only [World.size_alloc]; omega), World.frozen?_alloc_past _ _ _ (by simp only [World.size_alloc]; omega), World.frozen?_alloc_at _ _ _ _ rfl]
  ·rw [hb.frozen (by dsimp only; omega), World.frozen?_alloc_past _ _ _ (by simp only [World.size_alloc]; omega), World.frozen?_alloc_past _ _ _ (by simp only [World.size_alloc]; omega), World.frozen?_alloc_at _ _ _ _ rfl]
  ·rw [hb.frozen (by dsimp only; omega), World.frozen?_alloc_past _ _ _ (by simp only [World.size_alloc]; omega), World.frozen?_alloc_past _ _ _ (by simp only [World.size_alloc]; omega), World.frozen?_alloc_at _ _ _ _ rfl]
  ·rw [hb.frozen (by dsimp only; omega), World.frozen?_alloc_past _ _ _ (by simp only [World.size_alloc]; omega), World.frozen?_alloc_past _ _ _ (by simp only [World.size_alloc]; omega), World.frozen?_alloc_at _ _ _ _ rfl]
  ·rw [hb.frozen (by dsimp only; omega), World.frozen?_alloc_past _ _ _ (by simp only [World.size_alloc]; omega), World.frozen?_alloc_past _ _ _ (by simp only [World.size_alloc]; omega), World.frozen?_alloc_at _ _ _ _ rfl]
  ·rw [hb.frozen (by dsimp only; omega), World.frozen?_alloc_past _ _ _ (by simp only [World.size_alloc]; omega), World.frozen?_alloc_past _ _ _ (by simp only [World.size_alloc]; omega), World.frozen?_alloc_at _ _ _ _ rfl]
  ·rw [hb.cell (by dsimp only; omega), World.cell?_alloc_past _ _ _ (by simp only [World.size_alloc]; omega), World.cell?_alloc_at _ _ _ _ (by simp only [World.size_alloc])]; rfl
  ·rw [hb.cell (by dsimp only; omega), World.cell?_alloc_past _ _ _ (by simp only [World.size_alloc]; omega), World.cell?_alloc_at _ _ _ _ (by simp only [World.size_alloc])]; rfl
  ·rw [hb.cell (by dsimp only; omega), World.cell?_alloc_past _ _ _ (by simp only [World.size_alloc]; omega), World.cell?_alloc_at _ _ _ _ (by simp only [World.size_alloc])]; rfl
  ·rw [hb.cell (by dsimp only; omega), World.cell?_alloc_past _ _ _ (by simp only [World.size_alloc]; omega), World.cell?_alloc_at _ _ _ _ (by simp only [World.size_alloc])]; rfl
  ·rw [hb.cell (by dsimp only; omega), World.cell?_alloc_past _ _ _ (by simp only [World.size_alloc]; omega), World.cell?_alloc_at _ _ _ _ (by simp only [World.size_alloc])]; rfl
  ·rw [hb.cell (by dsimp only; omega), World.cell?_alloc_past _ _ _ (by simp only [World.size_alloc]; omega), World.cell?_alloc_at _ _ _ _ (by simp only [World.size_alloc])]; rfl
  ·rw [hb.cell (by dsimp only; omega), World.cell?_alloc_past _ _ _ (by simp only [World.size_alloc]; omega), World.cell?_alloc_at _ _ _ _ (by simp only [World.size_alloc])]; rfl
  ·rw [hb.cell (by dsimp only; omega), World.cell?_alloc_at _ _ _ _ (by simp only [World.size_alloc])]; rfl
  ·rw [hb.cell (by dsimp only; omega), World.cell?_alloc_at _ _ _ _ (by simp only [World.size_alloc])]; rfl
  ·rw [hb.cell (by dsimp only; omega), World.cell?_alloc_at _ _ _ _ (by simp only [World.size_alloc])]; rfl
  ·rw [hb.cell (by dsimp only; omega), World.cell?_alloc_at _ _ _ _ (by simp only [World.size_alloc])]; rfl
  ·rw [hb.cell (by dsimp only; omega), World.cell?_alloc_at _ _ _ _ (by simp only [World.size_alloc])]; rfl
  ·rw [hb.cell (by dsimp only; omega), World.cell?_alloc_at _ _ _ _ (by simp only [World.size_alloc])]; rfl
  ·rw [hb.cell (by dsimp only; omega), World.cell?_alloc_at _ _ _ _ (by simp only [World.size_alloc])]; rfl
  ·rw [hb.frozen (by dsimp only; omega), World.frozen?_alloc_at _ _ _ _ (by simp only [World.size_alloc])]
  ·rw [hb.frozen (by dsimp only; omega), World.frozen?_alloc_at _ _ _ _ (by simp only [World.size_alloc])]
  ·rw [hb.frozen (by dsimp only; omega), World.frozen?_alloc_at _ _ _ _ (by simp only [World.size_alloc])]
  ·rw [hb.frozen (by dsimp only; omega), World.frozen?_alloc_at _ _ _ _ (by simp only [World.size_alloc])]
  ·rw [hb.frozen (by dsimp only; omega), World.frozen?_alloc_at _ _ _ _ (by simp only [World.size_alloc])]
  ·rw [hb.frozen (by dsimp only; omega), World.frozen?_alloc_at _ _ _ _ (by simp only [World.size_alloc])]
  ·rw [hb.frozen (by dsimp only; omega), World.frozen?_alloc_at _ _ _ _ (by simp only [World.size_alloc])]
 have Hcell := Yq hcell; clear hcell
 have hb0 := Yq (Below.alloc (Below.alloc (Below.alloc (Below.refl w.heap.size w) (Nat.le_refl _) (.cells #[.int .i64 k, .int .u64 n, .string t, .slice a1 n1 c1, .string r, .slice a2 n2 c2, .slice a3 n3 c3] 27)) (by simp) (.cells #[.int .i64 yk, .int .u64 yn, .string yt, .slice ya1 yn1 yc1, .string yr, .slice ya2 yn2 yc2, .slice ya3 yn3 yc3] 27)) (by simp; omega) (.cells #[.int .i64 0, .int .u64 0, .string ⟨#[]⟩, .slice none 0 0, .string ⟨#[]⟩, .slice none 0 0, .slice none 0 0] 27))
 have Hsame : Hid (∀ w1, Below w.heap.size w w1 → RetV E w (.mk k n t f r l p) (.returned (.agg #[.int .i64 k, .int .u64 n, .string t, .slice a1 n1 c1, .string r, .slice a2 n2 c2, .slice a3 n3 c3])) w1) := fun w1 hb => ⟨_, rfl, Hx.out.mono (belowE hb (fun _ h => .inl h)), hb⟩
 by_cases hk : k = 3
 ·subst hk
  by_cases hn1 : num < 1
  ·rw [if_neg (by omega)]
   go_enter Tryz.func100, Tryz.ntmps100
   go_wp2_with fail
   exact bodyPost_ret (v := .agg #[.int .i64 3, .int .u64 n, .string t, .slice a1 n1 c1, .string r, .slice a2 n2 c2, .slice a3 n3 c3]) (by simp [results, Tryz.results100, go_sem, *]) rfl (Hsame.out _ (Below.alloc (Below.alloc (Below.alloc (Below.refl w.heap.size w) (Nat.le_refl _) _) (by simp) _) (by simp; omega) _))
  ·by_cases hn2 : num > 536870911
   ·rw [if_neg (by omega)]
    go_enter Tryz.func100, Tryz.ntmps100
    go_wp2_with fail
    exact bodyPost_ret (v := .agg #[.int .i64 3, .int .u64 n, .string t, .slice a1 n1 c1, .string r, .slice a2 n2 c2, .slice a3 n3 c3]) (by simp [results, Tryz.results100, go_sem, *]) rfl (Hsame.out _ (Below.alloc (Below.alloc (Below.alloc (Below.refl w.heap.size w) (Nat.le_refl _) _) (by simp) _) (by simp; omega) _))
   ·rw [if_pos ⟨rfl, by omega, by omega⟩]
    have e1 : decide (num < 1) = false := decide_eq_false hn1
    have e2 : decide (num > 536870911) = false := decide_eq_false hn2
    have hput : ∃ b, b = decide (yk ≠ 0) ∧ (yk != 0) = b := ⟨_, rfl, by by_cases h : yk = 0 <;> simp [h]⟩
    obtain ⟨b, hb1, hb2⟩ := hput
    rw [← hb1]
    clear hb1
    have hcount : ∃ c : Nat, c = one hit ∧ ∀ (w : World), Calls Tryz.prog 109 #[.bool hit] w fun e w' => e = .returned (.int .i64 (c : Nat)) ∧ w' = w := by
     refine ⟨_, rfl, fun w => (count_any hit w).mono ?_⟩
     rintro e w' ⟨rfl, rfl⟩
     cases hit <;> exact ⟨rfl, rfl⟩
    obtain ⟨c, hc1, hc2⟩ := hcount
    have HC := Yq hc2
    rw [← hc1] at hpl ⊢
    clear hc1 hc2
    go_enter Tryz.func100, Tryz.ntmps100
    go_wp2_with fail
    refine (HP2.out _ hb0.out).mono ?_
    rintro e w1 ⟨rfl, hb⟩
    have hbB : Below (w.heap.size + 3) (((w.alloc (.cells #[.int .i64 3, .int .u64 n, .string t, .slice a1 n1 c1, .string r, .slice a2 n2 c2, .slice a3 n3 c3] 27)).alloc (.cells #[.int .i64 yk, .int .u64 yn, .string yt, .slice ya1 yn1 yc1, .string yr, .slice ya2 yn2 yc2, .slice ya3 yn3 yc3] 27)).alloc (.cells #[.int .i64 0, .int .u64 0, .string ⟨#[]⟩, .slice none 0 0, .string ⟨#[]⟩, .slice none 0 0, .slice none 0 0] 27)) w1 := by simpa using hb
    have HbB := Yq hbB
    have Hbw := Yq (hb0.out.trans (hb.mono hb0.out.size))
    obtain ⟨q0, q1, q2, q3, q4, q5, q6, q7, q8, q9, q10, q11, q12, q13, q14, q15, q16, q17, q18, q19, q20, q21, q22, q23, q24, q25, q26, q27, q28, q29, q30, q31, q32, q33, q34⟩ := Hcell.out w1 hbB
    have hsz1 : w.heap.size + 2 < w1.heap.size := by have := hb.size; simp at this; omega
    clear hb hbB
    go_wp2_with fail
    refine wp_region_still_tail 11 (by kernel_rfl) (by kernel_rfl) ?_
    simp only [List.take_succ_cons, List.take_zero, List.drop_succ_cons, List.drop_zero]
    repeat still_step
    still_call (HC.out _)
    repeat still_step
    refine wpStill_nil ?_
    change wpList _ _ _ _ _ w1.drew
    go_wp2_with fail
    refine (HS.out _ Hbw.out.drew pos c b hpl).mono ?_
    rintro e w3 ⟨v3, rfl, hown3, hb3⟩
    have hb13 := ((Below.refl w1.heap.size w1).drew).trans hb3
    have hB3 := HbB.out.trans (hb13.mono (by omega))
    have Hbw3 := Yq (Hbw.out.trans (hb13.mono Hbw.out.size))
    clear q0 q1 q2 q3 q4 q5 q6 q7 q8 q9 q10 q11 q12 q13 q14 q15 q16 q17 q18 q19 q20 q21 q22 q23 q24 q25 q26 q27 q28 q29 q30 q31 q32 q33 q34
    obtain ⟨q0, q1, q2, q3, q4, q5, q6, q7, q8, q9, q10, q11, q12, q13, q14, q15, q16, q17, q18, q19, q20, q21, q22, q23, q24, q25, q26, q27, q28, q29, q30, q31, q32, q33, q34⟩ := Hcell.out w3 hB3
    have hsz3 : w.heap.size + 2 < w3.heap.size := Nat.lt_of_lt_of_le hsz1 hb13.size
    have hF3 : FlatC 8 (fragE w3 (some w.heap.size :: some (w.heap.size + 1 + 1) :: E)) v3 (spliceL_fld fe pos c b (.int .i64 num :: [.int .i64 yk, .int .u64 yn, .string yt, .slice ya1 yn1 yc1, .string yr, .slice ya2 yn2 yc2, .slice ya3 yn3 yc3])) :=
     FlatC.of_owns hown3 rfl (Hlen.out pos c b) (own_notin hown3 (fun g hg => by
      have h2 := HE.out g
      simp only [List.mem_cons, Option.some.injEq] at hg
      have h3 := hsz1
      show g < w1.heap.size
      rcases hg with hg | hg | hg
      ·omega
      ·omega
      ·have := h2 hg; omega))
    have HF3 := Yq hF3
    obtain ⟨a5, c5, rfl, _⟩ := hF3.len
    clear hown3 hb3 hb13 hB3 hF3
    generalize (spliceL_fld fe pos c b (.int .i64 num :: [.int .i64 yk, .int .u64 yn, .string yt, .slice ya1 yn1 yc1, .string yr, .slice ya2 yn2 yc2, .slice ya3 yn3 yc3])).length = n5 at *
    go_wp2_with fail
    refine bodyPost_ret (v := .agg #[.int .i64 3, .int .u64 n, .string t, .slice a5 n5 c5, .string r, .slice a2 n2 c2, .slice a3 n3 c3]) (by simp [results, Tryz.results100, go_sem, *]) rfl ⟨_, rfl, HR.out _ ?_ _ pos c b (HF3.out.mono ?_), ?_⟩
    ·exact (Below.setCell (Below.setCell (Below.setCell (Below.setCell (Below.setCell (Below.setCell (Below.setCell (Below.setCell Hbw3.out (Nat.le_refl _) _) (by show w.heap.size ≤ w.heap.size + 1 + 1; omega) _) (by show w.heap.size ≤ w.heap.size + 1 + 1; omega) _) (by show w.heap.size ≤ w.heap.size + 1 + 1; omega) _) (by show w.heap.size ≤ w.heap.size + 1 + 1; omega) _) (by show w.heap.size ≤ w.heap.size + 1 + 1; omega) _) (by show w.heap.size ≤ w.heap.size + 1 + 1; omega) _) (by show w.heap.size ≤ w.heap.size + 1 + 1; omega) _)
    ·exact setE (by simp) (setE (by simp) (setE (by simp) (setE (by simp) (setE (by simp) (setE (by simp) (setE (by simp) (setE (by simp) (subE _ (fun _ h => by simp [h])))))))))
    ·exact (Below.setCell (Below.setCell (Below.setCell (Below.setCell (Below.setCell (Below.setCell (Below.setCell (Below.setCell Hbw3.out (Nat.le_refl _) _) (by show w.heap.size ≤ w.heap.size + 1 + 1; omega) _) (by show w.heap.size ≤ w.heap.size + 1 + 1; omega) _) (by show w.heap.size ≤ w.heap.size + 1 + 1; omega) _) (by show w.heap.size ≤ w.heap.size + 1 + 1; omega) _) (by show w.heap.size ≤ w.heap.size + 1 + 1; omega) _) (by show w.heap.size ≤ w.heap.size + 1 + 1; omega) _) (by show w.heap.size ≤ w.heap.size + 1 + 1; omega) _)
 ·rw [if_neg (fun h => hk h.1)]
  have hk' : (k != 3) = true := by simpa using hk
  clear hk
  go_enter Tryz.func100, Tryz.ntmps100
  go_wp2_with fail
  exact bodyPost_ret (v := .agg #[.int .i64 k, .int .u64 n, .string t, .slice a1 n1 c1, .string r, .slice a2 n2 c2, .slice a3 n3 c3]) (by simp [results, Tryz.results100, go_sem, *]) rfl (Hsame.out _ (Below.alloc (Below.alloc (Below.alloc (Below.refl w.heap.size w) (Nat.le_refl _) _) (by simp) _) (by simp; omega) _))
end Go.Proofs.YtlmbcoecipbblaaGreatDoor
