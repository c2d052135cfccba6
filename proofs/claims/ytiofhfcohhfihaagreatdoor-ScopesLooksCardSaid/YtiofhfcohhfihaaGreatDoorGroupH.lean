/- The law ScopesLooks, walked: it returns true. What the walk of ScopesLooks is told of the package-level variables. -/
import Derived.Test.YtiofhfcohhfihaaGreatDoorGroupG
import Derived.Test.YtiofhfcohhfihaaGreatDoorScAlive
import Derived.Test.YtiofhfcohhfihaaGreatDoorLaidOne

namespace Go.Proofs.YtiofhfcohhfihaaGreatDoor
open Go.RowKit
set_option linter.unusedVariables false
set_option linter.unusedSimpArgs false

theorem eqGuardRTy : Tryz.prog.eqGuardType Tryz.prog.depth 62 = false := by kernel_rfl

set_option maxHeartbeats 8000000 in
set_option maxRecDepth 100000 in
theorem scopesLooks_main (A : Nat → Addr) (s sc n : ByteArray) (w : World) (hV : VarsU A w) (hm : s.size ≤ maxLen) (hm2 : sc.size ≤ maxLen) (hm3 : n.size ≤ maxLen) :
    Calls Tryz.prog 4 #[.string s, .string sc, .string n] w fun e w' => e = .returned (.bool true) ∧ Below w.heap.size w w' := by
  have HA := Lib.hid (alive09 A w hV)
  have HV := Lib.hid hV
  obtain ⟨sl, rfl⟩ : ∃ l, sc = toB l := ⟨sc.data.toList, (toB_self sc).symm⟩
  obtain ⟨nl', rfl⟩ : ∃ l, n = toB l := ⟨n.data.toList, (toB_self n).symm⟩
  have Hm := Lib.hid hm
  have hsz2 := toB_size sl
  have hsz3 := toB_size nl'
  unfold maxLen at hm hm2 hm3
  by_cases h1 : 5000 < s.size
  · have hbI : (5000 : Int) < (s.size : Int) := by omega
    clear h1 hV hsz2 hsz3
    go_enter Tryz.func4, Tryz.ntmps4
    go_wp2_with fail
    refine HA.out.mono ?_
    rintro e w1 ⟨rfl, hb1⟩
    go_wp2_with fail
    go_ret
    exact ⟨rfl, hb1⟩
  have hI1 : (s.size : Int) ≤ 5000 := by omega
  have hI1' : ¬ (5000 : Int) < (s.size : Int) := by omega
  by_cases h2 : 300 < (toB sl).size
  · have hbI : (300 : Int) < ((toB sl).size : Int) := by omega
    clear h1 h2 hV hsz2 hsz3
    go_enter Tryz.func4, Tryz.ntmps4
    go_wp2_with fail
    refine HA.out.mono ?_
    rintro e w1 ⟨rfl, hb1⟩
    go_wp2_with fail
    go_ret
    exact ⟨rfl, hb1⟩
  have hI2 : ((toB sl).size : Int) ≤ 300 := by omega
  have hI2' : ¬ (300 : Int) < ((toB sl).size : Int) := by omega
  by_cases h3 : 300 < (toB nl').size
  · have hbI : (300 : Int) < ((toB nl').size : Int) := by omega
    clear h1 h2 h3 hV hsz2 hsz3
    go_enter Tryz.func4, Tryz.ntmps4
    go_wp2_with fail
    refine HA.out.mono ?_
    rintro e w1 ⟨rfl, hb1⟩
    go_wp2_with fail
    go_ret
    exact ⟨rfl, hb1⟩
  have hI3 : ((toB nl').size : Int) ≤ 300 := by omega
  have hI3' : ¬ (300 : Int) < ((toB nl').size : Int) := by omega
  have Hsl : Hid (sl.length ≤ 300 ∧ nl'.length ≤ 300) := Lib.hid (by omega)
  clear h1 h2 h3 hV hsz2 hsz3 hm2 hm3
  go_enter Tryz.func4, Tryz.ntmps4
  go_wp2_with fail
  refine HA.out.mono ?_
  rintro e w1 ⟨rfl, hb1⟩
  have HV1 := Lib.hid (HV.out.keep hb1)
  have Hb1 := Lib.hid hb1
  have HS1 := Lib.hid (spost_any A s w1 HV1.out.d Hm.out)
  unfold SPost at HS1
  clear hb1 HA
  go_wp2_with fail
  refine HS1.out.mono ?_
  rintro e w2 ⟨hb2, ⟨g2, rfl⟩ | ⟨f, cs, rfl, hf, hd, hfew, _⟩⟩
  · have Hb2 := Lib.hid (Hb1.out.trans (hb2.mono Hb1.out.size))
    clear hb2
    go_upto_region 6 with (first
      | (refine wpList_alloc_lay rfl 31 rfl zFl zeroFl ?_; (intro w4 g4 hg4 hB4 hb4))
      | (refine wpList_store_all rfl 31 _ _ rfl g4 zFl rfl rfl zFl hB4 infoFl rfl (by decide) ?_; (intro w5 hB5 hgr5; have hb5 := Below.grown hb4 hgr5 hb4.size (fun _ e => by cases e; exact hg4); clear hb4 hgr5 hB4)))
    go_wp2_with fail
    go_ret
    exact ⟨rfl, Hb2.out.trans (hb5.mono Hb2.out.size)⟩
  have Hb2 := Lib.hid (Hb1.out.trans (hb2.mono Hb1.out.size))
  have Hf := Lib.hid hf; have Hd := Lib.hid hd; have Hfew := Lib.hid hfew
  have Hcs := Lib.hid (fil_form hf)
  clear hb2 hf hd hfew HS1
  go_upto_region 6 with (first
    | (refine wpList_alloc_lay rfl 31 rfl zFl zeroFl ?_; (intro w3 gF hgF hB3 hb3))
    | (refine wpList_store_all rfl 31 _ _ rfl gF cs rfl rfl zFl hB3 ?_ ?_ ?_ ?_; (· rw [Hcs.out.1]; exact infoFl); (· exact Hcs.out.1); (· exact Hcs.out.2); (intro w4 hB4 hgr4; have hb4 := Below.grown hb3 hgr4 hb3.size (fun _ e => by cases e; exact hgF); clear hb3 hgr4 hB3)))
  have Hf4 := Lib.hid (Hf.out.mono (below_le hb4))
  have Hb4 := Lib.hid (Hb2.out.trans (hb4.mono Hb2.out.size))
  have HB4 := Lib.hid hB4
  have hW4 := hB4.whole
  have HS := Lib.hid (scopes_of_any A f cs w4 (HV.out.keep Hb4.out) Hd.out Hf4.out)
  have HR := Lib.hid (fun h0 cs' w' hle hf' => rof09_any h0 f cs' w' hle Hd.out Hfew.out hf')
  have HO := Lib.hid (fun h0 w' hle hf' => Of_any h0 f cs w' hle hf')
  have HU := Lib.hid (table_uniq f); have Hl := Lib.hid (table_few f); have HN := Lib.hid (fun x => add_num [] (Sc.raws f) x)
  change Hid (∀ x, (Sc.table f).2 = some x → x.1 = 11 ∨ x.1 = 3) at HN
  clear hB4 hb4 hgF
  generalize Sc.table f = r at *
  obtain ⟨l, er⟩ := r
  unfold ScopePost at HS
  unfold RefPost at HR
  unfold TreePost at HO
  cases er with
  | some x =>
    dsimp only at HS HR HN
    have hx : ¬ ((x.1 : Nat) : Int) = 0 := by rcases HN.out x rfl with h | h <;> omega
    go_upto_region 9 with (first
      | (refine wpList_load_seg rfl 31 _ rfl _ _ rfl _ _ hW4 Tryz.underlying31 rfl ?_ ?_; (· rw [Hcs.out.1]; exact infoFl))
      | (go_at_call 19; (with_reducible refine HS.out.mono ?_); rintro e w5 ⟨hb5, ev, rfl, gf, rfl, hBf⟩))
    have Hb5 := Lib.hid (Hb4.out.trans (hb5.mono Hb4.out.size))
    have hW5 := (HB4.out.below hb5 HB4.out.lt).whole
    have HO5 := Lib.hid (HO.out (frag w5) w5 (FLe.refl _) (Hf4.out.mono (below_le hb5)))
    clear hb5 hW4 hBf
    go_upto_region 10 with (first
      | (refine wpList_load_seg rfl 31 _ rfl _ _ rfl _ _ hW5 Tryz.underlying31 rfl ?_ ?_; (· rw [Hcs.out.1]; exact infoFl))
      | (go_at_call 13; (with_reducible refine HO5.out.mono ?_); rintro e w6 ⟨ds, rfl, hf6, hb6⟩; have Hb6 := Lib.hid (Hb5.out.trans (hb6.mono Hb5.out.size)); have HR6 := Lib.hid (HR.out (frag w6) ds w6 (FLe.refl _) (hf6.mono (fragJ_le (below_le hb6)))); clear hb6 hf6)
      | (go_at_call 20; (with_reducible refine HR6.out.mono ?_); rintro e w7 ⟨hb7, rfl⟩; have Hb7 := Lib.hid (Hb6.out.trans (hb7.mono Hb6.out.size)); clear hb7))
    generalize ((x.1 : Nat) : Int) = xn at *
    go_wp2_with fail
    go_ret
    exact ⟨ret_bool (by rw [bne_iff_ne]; exact hx), Hb7.out⟩
  | none =>
    dsimp only at HS HR HU Hl
    go_upto_region 9 with (first
      | (refine wpList_load_seg rfl 31 _ rfl _ _ rfl _ _ hW4 Tryz.underlying31 rfl ?_ ?_; (· rw [Hcs.out.1]; exact infoFl))
      | (go_at_call 19; (with_reducible refine HS.out.mono ?_); rintro e w5 ⟨hb5, g5, rfl, hT5⟩))
    have Hb5 := Lib.hid (Hb4.out.trans (hb5.mono Hb4.out.size))
    have HT5 := Lib.hid hT5
    have hW5 := (HB4.out.below hb5 HB4.out.lt).whole
    have HO5 := Lib.hid (HO.out (frag w5) w5 (FLe.refl _) (Hf4.out.mono (below_le hb5)))
    clear hb5 hW4 hT5
    go_upto_region 10 with (first
      | (refine wpList_load_seg rfl 31 _ rfl _ _ rfl _ _ hW5 Tryz.underlying31 rfl ?_ ?_; (· rw [Hcs.out.1]; exact infoFl))
      | (go_at_call 13; (with_reducible refine HO5.out.mono ?_); rintro e w6 ⟨ds, rfl, hf6, hb6⟩; have Hb6 := Lib.hid (Hb5.out.trans (hb6.mono Hb5.out.size)); have HT6 := Lib.hid (HT5.out.keep hb6); have HR6 := Lib.hid (HR.out (frag w6) ds w6 (FLe.refl _) (hf6.mono (fragJ_le (below_le hb6)))); clear hb6 hf6)
      | (go_at_call 20; (with_reducible refine HR6.out.mono ?_); rintro e w7 ⟨hb7, v7, rfl, hv7⟩; have Hb7 := Lib.hid (Hb6.out.trans (hb7.mono Hb6.out.size)); have HT7 := Lib.hid (HT6.out.keep hb7); have Hv7 := Lib.hid hv7; clear hb7 hv7))
    have HL := Lib.hid (look_any w4 g5 [] l sl nl' w7 HT7.out HU.out Hl.out (by have := Hsl.out; omega) (by have := Hsl.out; omega))
    have HRL := Lib.hid (fun w' (hb : Below w7.heap.size w7 w') => rlook09_any v7 l sl nl' w' Hl.out (Hv7.out.mono (below_le hb)) (by have := Hsl.out; omega) (by have := Hsl.out; omega))
    have HFi := Lib.hid (fun w' (hb : Below w7.heap.size w7 w') => find_any w4 g5 [] l nl' w' (HT7.out.keep hb) HU.out Hl.out (by have := Hsl.out; omega))
    have HRF := Lib.hid (fun w' (hb : Below w7.heap.size w7 w') => rfind09_any v7 l nl' w' Hl.out (Hv7.out.mono (below_le hb)))
    obtain ⟨a7, c7, rfl, _, _, _⟩ := Hv7.out.len
    unfold FindPost at HL HRL HFi HRF
    generalize Sc.Look l sl nl' = r1 at *
    generalize Sc.find l nl' = r2 at *
    have O1 := Lib.hid (one_tyO r1); have N1 := Lib.hid (tyO_len r1); have O2 := Lib.hid (one_tyO r2); have N2 := Lib.hid (tyO_len r2)
    clear HR HS HO HR6 HO5 HU HN
    go_upto_region 13 with (first
      | (go_at_call 21; (with_reducible refine (HL.out).mono ?_); rintro e c1 ⟨rfl, hbc⟩)
      | (refine wpList_alloc_lay rfl 59 rfl zTy zeroTy ?_; (intro d1 g1' hg hB hb))
      | (refine wpList_store_all rfl 59 _ _ rfl g1' (tyO r1) rfl rfl zTy hB ?_ ?_ ?_ ?_; (· rw [N1.out]; exact infoTy); (· exact N1.out); (· exact O1.out); (intro e1 hB' hgr; have hbs := Below.grown hb hgr hb.size (fun _ e => by cases e; exact hg); clear hb hgr hB hg)))
    have Y1 : Hid (Below w7.heap.size w7 e1) := Lib.hid (hbc.trans (hbs.mono hbc.size))
    have B1 := Lib.hid hB'
    clear hbc hbs hB'
    go_upto_region 14 with (first
      | (go_at_call 22; (with_reducible refine (HRL.out _ Y1.out).mono ?_); rintro e c2 ⟨rfl, hbc⟩)
      | (refine wpList_alloc_lay rfl 62 rfl zTy zeroRTy ?_; (intro d2 g2' hg hB hb))
      | (refine wpList_store_all rfl 62 _ _ rfl g2' (tyO r1) rfl rfl zTy hB ?_ ?_ ?_ ?_; (· rw [N1.out]; exact infoRTy); (· exact N1.out); (· exact O1.out); (intro e2 hB' hgr; have hbs := Below.grown hb hgr hb.size (fun _ e => by cases e; exact hg); clear hb hgr hB hg)))
    have Y2 : Hid (Below w7.heap.size w7 e2) := Lib.hid (Y1.out.trans ((hbc.trans (hbs.mono hbc.size)).mono Y1.out.size))
    replace B1 := Lib.hid (Blk.below (B1.out.below hbc B1.out.lt) hbs (B1.out.below hbc B1.out.lt).lt)
    have B2 := Lib.hid hB'
    clear hbc hbs hB'
    go_upto_region 15 with (first
      | (go_at_call 23; (with_reducible refine (HFi.out _ Y2.out).mono ?_); rintro e c3 ⟨rfl, hbc⟩)
      | (refine wpList_alloc_lay rfl 59 rfl zTy zeroTy ?_; (intro d3 g3' hg hB hb))
      | (refine wpList_store_all rfl 59 _ _ rfl g3' (tyO r2) rfl rfl zTy hB ?_ ?_ ?_ ?_; (· rw [N2.out]; exact infoTy); (· exact N2.out); (· exact O2.out); (intro e3 hB' hgr; have hbs := Below.grown hb hgr hb.size (fun _ e => by cases e; exact hg); clear hb hgr hB hg)))
    have Y3 : Hid (Below w7.heap.size w7 e3) := Lib.hid (Y2.out.trans ((hbc.trans (hbs.mono hbc.size)).mono Y2.out.size))
    replace B1 := Lib.hid (Blk.below (B1.out.below hbc B1.out.lt) hbs (B1.out.below hbc B1.out.lt).lt)
    replace B2 := Lib.hid (Blk.below (B2.out.below hbc B2.out.lt) hbs (B2.out.below hbc B2.out.lt).lt)
    have B3 := Lib.hid hB'
    clear hbc hbs hB'
    go_upto_region 16 with (first
      | (go_at_call 24; (with_reducible refine (HRF.out _ Y3.out).mono ?_); rintro e c4 ⟨rfl, hbc⟩)
      | (refine wpList_alloc_lay rfl 62 rfl zTy zeroRTy ?_; (intro d4 g4' hg hB hb))
      | (refine wpList_store_all rfl 62 _ _ rfl g4' (tyO r2) rfl rfl zTy hB ?_ ?_ ?_ ?_; (· rw [N2.out]; exact infoRTy); (· exact N2.out); (· exact O2.out); (intro e4 hB' hgr; have hbs := Below.grown hb hgr hb.size (fun _ e => by cases e; exact hg); clear hb hgr hB hg)))
    have Y4 : Hid (Below w7.heap.size w7 e4) := Lib.hid (Y3.out.trans ((hbc.trans (hbs.mono hbc.size)).mono Y3.out.size))
    replace B1 := Lib.hid (Blk.below (B1.out.below hbc B1.out.lt) hbs (B1.out.below hbc B1.out.lt).lt)
    replace B2 := Lib.hid (Blk.below (B2.out.below hbc B2.out.lt) hbs (B2.out.below hbc B2.out.lt).lt)
    replace B3 := Lib.hid (Blk.below (B3.out.below hbc B3.out.lt) hbs (B3.out.below hbc B3.out.lt).lt)
    have B4' := Lib.hid hB'
    clear hbc hbs hB'
    have HZ4 : Hid (Below w.heap.size w e4) := Lib.hid (Hb7.out.trans (Y4.out.mono Hb7.out.size))
    have he1 := fun w => eqlRTy r1 w
    have he2 := fun w => eqlRTy r2 w
    have hG := eqGuardRTy
    have W1 := B1.out.whole; have W2 := B2.out.whole; have W3 := B3.out.whole; have W4 := B4'.out.whole
    go_wp2_with (first
      | (refine wpList_load_seg rfl 59 _ rfl _ _ rfl _ _ W1 Tryz.underlying59 rfl ?_ ?_; (· rw [N1.out]; exact infoTy))
      | (refine wpList_load_seg rfl 62 _ rfl _ _ rfl _ _ W2 Tryz.underlying62 rfl ?_ ?_; (· rw [N1.out]; exact infoRTy))
      | (refine wpList_load_seg rfl 59 _ rfl _ _ rfl _ _ W3 Tryz.underlying59 rfl ?_ ?_; (· rw [N2.out]; exact infoTy))
      | (refine wpList_load_seg rfl 62 _ rfl _ _ rfl _ _ W4 Tryz.underlying62 rfl ?_ ?_; (· rw [N2.out]; exact infoRTy)))
    go_ret
    exact ⟨ret_bool (by simp), HZ4.out⟩

end Go.Proofs.YtiofhfcohhfihaaGreatDoor

namespace Go.Proofs.YtiofhfcohhfihaaGreatDoor
open Go.ChangeShapes Go.WideShapes Go.ChangeAt Go.RowKit
set_option linter.unusedVariables false

theorem of_laid {W : World} (h : laidMetH Tryz.prog [("math/bits.deBruijn32tab", Rows.laid_math_bits_deBruijn32tab), ("math/bits.deBruijn64tab", Rows.laid_math_bits_deBruijn64tab), ("internal/strconv.uint64pow10", Rows.laid_internal_strconv_uint64pow10), ("redline/api.ErrRange", Rows.laid_redline_api_ErrRange), ("redline/api.ErrLong", Rows.laid_redline_api_ErrLong), ("redline/api.ErrDepth", Rows.laid_redline_api_ErrDepth), ("redline/api.ErrForm", Rows.laid_redline_api_ErrForm), ("redline/api.ErrDup", Rows.laid_redline_api_ErrDup), ("strconv.ErrRange", Rows.laid_strconv_ErrRange), ("strconv.ErrSyntax", Rows.laid_strconv_ErrSyntax)] W) (hsh : W.ShapedOpen Tryz.prog) : ∃ A, VarsU A W := by
  rw [MakeChecks.laidMetH_plain _ _ _ (by kernel_rfl)] at h
  obtain ⟨ps, h1, _, hrows⟩ := h
  have key := laid_one (P := Tryz.prog) (W := W) Tryz.underlying25 lo_rowE Tryz.underlying264 Tryz.underlying266 rfl rfl Tryz.underlying9 (by kernel_rfl) (by kernel_rfl) _ ps h1 hrows
  obtain ⟨a0, e0⟩ := key "redline/api.ErrRange" _ (List.mem_of_getElem? (i := 3) rfl) 6 (by kernel_rfl) (by kernel_rfl)
  obtain ⟨a2, e2⟩ := key "redline/api.ErrLong" _ (List.mem_of_getElem? (i := 4) rfl) 0 (by kernel_rfl) (by kernel_rfl)
  obtain ⟨a7, e7⟩ := key "redline/api.ErrDepth" _ (List.mem_of_getElem? (i := 5) rfl) 2 (by kernel_rfl) (by kernel_rfl)
  obtain ⟨a8, e8⟩ := key "redline/api.ErrForm" _ (List.mem_of_getElem? (i := 6) rfl) 1 (by kernel_rfl) (by kernel_rfl)
  obtain ⟨ad, ed⟩ := key "redline/api.ErrDup" _ (List.mem_of_getElem? (i := 7) rfl) 3 (by kernel_rfl) (by kernel_rfl)
  obtain ⟨ac, ec⟩ := key "strconv.ErrRange" _ (List.mem_of_getElem? (i := 8) rfl) 22 (by kernel_rfl) (by kernel_rfl)
  exact ⟨fun i => if i = 0 then a0 else if i = 2 then a2 else if i = 7 then a7 else if i = 10 then ad else a8, ⟨⟨e0, e2, e8, ⟨_, _, ec⟩, Tryz.laysM143.s1_3 W hsh⟩, e7⟩, ed⟩

theorem scopesLooks_walk (W : World) (h : ∃ A, VarsU A W) (s : ByteArray) (hm : s.size ≤ maxLen) (t : ByteArray) (hm2 : t.size ≤ maxLen) (n : ByteArray) (hm3 : n.size ≤ maxLen) :
    Calls Tryz.prog 4 #[.string s, .string t, .string n] W fun e w' => e = .returned (.bool true) ∧ Below W.heap.size W w' := by
  obtain ⟨A, hV⟩ := h
  exact scopesLooks_main A s t n W hV hm hm2 hm3

end Go.Proofs.YtiofhfcohhfihaaGreatDoor
