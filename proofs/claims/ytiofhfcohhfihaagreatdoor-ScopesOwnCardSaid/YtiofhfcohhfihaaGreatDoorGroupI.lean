/- The law ScopesOwn, walked: it returns true. What the walk of ScopesOwn is told of the package-level variables. -/
import Derived.Test.YtiofhfcohhfihaaGreatDoorGroupG
import Derived.Test.YtiofhfcohhfihaaGreatDoorScAlive
import Derived.Test.YtiofhfcohhfihaaGreatDoorLaidOne

namespace Go.Proofs.YtiofhfcohhfihaaGreatDoor
open Go.RowKit
set_option linter.unusedVariables false
set_option linter.unusedSimpArgs false

theorem eqGuardSTy : Tryz.prog.eqGuardType Tryz.prog.depth 59 = false := by kernel_rfl
theorem cut_drop (l : Lx.Bs) (k : Nat) : (toB l).extract k (toB l).size = toB (l.drop k) := by
  apply ByteArray.ext
  rw [ByteArray.data_extract]
  show l.toArray.extract k _ = (l.drop k).toArray
  rw [List.extract_toArray, List.extract_eq_take_drop, toB_size]
  congr 1
  rw [List.take_of_length_le (by rw [List.length_drop]; exact Nat.le_refl _)]
theorem outer_size (s : Lx.Bs) : (toB (Sc.outer s)).size = Sc.lastDot s := by
  rw [toB_size]
  unfold Sc.outer
  rw [List.length_take]
  by_cases h : s = []
  · subst h; rfl
  · have := Sc.lastDot_lt h; omega
theorem behind_dot (s : Lx.Bs) (i : Nat) (h : i < (toB s).size) (hi : (toB (Sc.outer s)).size < i) : ¬ (((toB s)[i].toNat : Nat) : Int) = 46 := by
  rw [outer_size] at hi
  have hl : i < s.length := by rw [toB_size] at h; exact h
  have h1 := Sc.lastP_behind (s := s) (k := s.length) (j := i) hi hl
  rw [List.getElem?_eq_getElem hl] at h1
  rw [byte_toB]
  intro e
  exact h1 (congrArg some (UInt8.toNat_inj.1 (show s[i].toNat = 46 by omega)))
theorem neqSelf (x : Sc.Ty) (w : World) : (binOp .neq 59 (.agg (tyC x).toArray) (.agg (tyC x).toArray)).run Tryz.prog w = .ok (.bool false) w := by
  have h := neqSTy x x w
  rw [decide_eq_true rfl] at h
  exact h

theorem rawMs_short : ∀ (n : Nat) (s : Lx.Bs) (l : List Sx.Msg), s.length + n * 5001 ≤ 28990000 → (∀ m ∈ l, Sx.DeepM n m) → ∀ x ∈ Sc.rawMs s l, x.full.length ≤ 29000000 := by
  intro n
  induction n with
  | zero =>
    intro s l _ h x hx
    cases l with
    | nil => rw [Sc.rawMs] at hx; cases hx
    | cons m r => exact absurd (h m (List.mem_cons_self ..)) (fun h => h)
  | succ n ih =>
    intro s l hs
    induction l with
    | nil => intro h x hx; rw [Sc.rawMs] at hx; cases hx
    | cons m r ihl =>
      intro h x hx
      rw [Sc.rawMs] at hx
      rcases List.mem_append.1 hx with hx | hx
      · have hm := h m (List.mem_cons_self ..)
        obtain ⟨nm, fs, os, ms, es, rs, ns, li, co⟩ := m
        have h1 := within_len s nm
        have h2 := hm.1
        rw [Sc.rawM] at hx
        rcases List.mem_cons.1 hx with rfl | hx
        · show (Sc.within s nm).length ≤ _
          omega
        · rcases List.mem_append.1 hx with hx | hx
          · obtain ⟨e, he, rfl⟩ := List.mem_map.1 hx
            have h3 := hm.2.1 e he
            have h4 := within_len (Sc.within s nm) e.name
            show (Sc.within (Sc.within s nm) e.name).length ≤ _
            omega
          · exact ih _ _ (by omega) hm.2.2 x hx
      · exact ihl (fun k hk => h k (List.mem_cons_of_mem _ hk)) x hx
theorem table_len {f : Sx.Fil} (h : Sx.DeepF f) : ∀ t ∈ (Sc.table f).1, t.full.length ≤ 29000000 := fun t ht => by
  rcases Sc.add_mem [] (Sc.raws f) t ht with h' | ⟨x, hx, e⟩
  · cases h'
  · rw [e]
    have hp := h.pack
    unfold Sc.raws at hx
    rcases List.mem_append.1 hx with hx | hx
    · obtain ⟨y, hy, rfl⟩ := List.mem_map.1 hx
      have h3 := h.enums y hy
      have h4 := within_len f.pack y.name
      show (Sc.within f.pack y.name).length ≤ _
      omega
    · exact rawMs_short 8 _ _ (by omega) h.msgs x hx

set_option maxHeartbeats 16000000 in
set_option maxRecDepth 100000 in
theorem scopesOwn_main (A : Nat → Addr) (s sc : ByteArray) (w : World) (hV : VarsU A w) (hm : s.size ≤ maxLen) (hm2 : sc.size ≤ maxLen) :
    Calls Tryz.prog 5 #[.string s, .string sc] w fun e w' => e = .returned (.bool true) ∧ Below w.heap.size w w' := by
  have HA := Lib.hid (alive09 A w hV)
  have HV := Lib.hid hV
  obtain ⟨sl, rfl⟩ : ∃ l, sc = toB l := ⟨sc.data.toList, (toB_self sc).symm⟩
  have Hm := Lib.hid hm
  have hsz2 := toB_size sl
  unfold maxLen at hm hm2
  by_cases h1 : 5000 < s.size
  · have hbI : (5000 : Int) < (s.size : Int) := by omega
    clear h1 hV hsz2
    go_enter Tryz.func5, Tryz.ntmps5
    go_wp2_with fail
    refine HA.out.mono ?_
    rintro e w1 ⟨rfl, hb1⟩
    go_wp2_with fail
    go_ret
    exact ⟨rfl, hb1⟩
  have hI1 : (s.size : Int) ≤ 5000 := by omega
  have hI1' : ¬ (5000 : Int) < (s.size : Int) := by omega
  by_cases h2 : 300 < (toB sl).size
  · have hbI : (300 : Int) < ((toB sl).size : Int) := by omega
    clear h1 h2 hV hsz2
    go_enter Tryz.func5, Tryz.ntmps5
    go_wp2_with fail
    refine HA.out.mono ?_
    rintro e w1 ⟨rfl, hb1⟩
    go_wp2_with fail
    go_ret
    exact ⟨rfl, hb1⟩
  have hI2 : ((toB sl).size : Int) ≤ 300 := by omega
  have hI2' : ¬ (300 : Int) < ((toB sl).size : Int) := by omega
  have hsl : (toB sl).size ≤ 300 := by omega
  have HOu := Lib.hid (fun w1 => outer_any sl w1 (by omega))
  have HBd := Lib.hid (fun i h hi => behind_dot sl i h hi)
  have hos := outer_size sl
  by_cases he : sl = []
  · subst he
    have q2 : (toB []).toList.isEmpty = true := isEmpty_yes (by rw [toB_size]; rfl)
    have hoe : Sc.outer [] = [] := rfl
    rw [hoe] at HOu HBd
    simp only [decide_true, Bool.not_true] at HOu
    have hz0 : (toB []).size = 0 := by rw [toB_size]; rfl
    have hole : (toB []).size ≤ 300 := hsl
    clear h1 h2 hV hsz2 hm2 hos hoe hsl
    go_enter Tryz.func5, Tryz.ntmps5
    go_wp2_with fail
    refine HA.out.mono ?_
    rintro e w1 ⟨rfl, hb1⟩
    have HV1 := Lib.hid (HV.out.keep hb1)
    have Hb1 := Lib.hid hb1
    have HS1 := Lib.hid (spost_any A s w1 HV1.out.d Hm.out)
    have HO1 := Lib.hid (HOu.out w1)
    unfold SPost at HS1
    clear hb1 HA HOu
    go_upto_region 8 with (go_at_call 25; (with_reducible refine HO1.out.mono ?_); rintro e w2 ⟨rfl, rfl⟩)
    go_wp2_with fail
    go_loopw [7] (fun iv wr => ∃ i : Nat, iv = .int .i64 i ∧ (toB []).size + 1 ≤ i ∧ i ≤ 302 ∧ wr = w2) (fun iv _ => 303 - (intOf iv).toNat)
    case atStart => exact ⟨(toB []).size + 1, by go_num, Nat.le_refl _, by omega, rfl⟩
    case round =>
      obtain ⟨i, rfl, hi1, hi2, rfl⟩ := hrel
      by_cases hlt : i < (toB []).size
      · exact absurd hlt (by omega)
      · clear HBd hi1 hi2
        go_wp2_with fail
        refine HS1.out.mono ?_
        rintro e w2 ⟨hb2, ⟨g2, rfl⟩ | ⟨f, cs, rfl, hf, hd, hfew, hdot⟩⟩
        · have Hb2 := Lib.hid (Hb1.out.trans (hb2.mono Hb1.out.size))
          clear hb2
          go_upto_region 14 with (first
            | (refine wpList_alloc_lay rfl 31 rfl zFl zeroFl ?_; (intro w4 g4 hg4 hB4 hb4))
            | (refine wpList_store_all rfl 31 _ _ rfl g4 zFl rfl rfl zFl hB4 infoFl rfl (by decide) ?_; (intro w5 hB5 hgr5; have hb5 := Below.grown hb4 hgr5 hb4.size (fun _ e => by cases e; exact hg4); clear hb4 hgr5 hB4)))
          go_wp2_with fail
          go_ret
          exact ⟨rfl, Hb2.out.trans (hb5.mono Hb2.out.size)⟩
        have Hb2 := Lib.hid (Hb1.out.trans (hb2.mono Hb1.out.size))
        have Hf := Lib.hid hf; have Hd := Lib.hid hd
        have Hcs := Lib.hid (fil_form hf)
        clear hb2 hf hd hfew HS1
        go_upto_region 14 with (first
          | (refine wpList_alloc_lay rfl 31 rfl zFl zeroFl ?_; (intro w3 gF hgF hB3 hb3))
          | (refine wpList_store_all rfl 31 _ _ rfl gF cs rfl rfl zFl hB3 ?_ ?_ ?_ ?_; (· rw [Hcs.out.1]; exact infoFl); (· exact Hcs.out.1); (· exact Hcs.out.2); (intro w4 hB4 hgr4; have hb4 := Below.grown hb3 hgr4 hb3.size (fun _ e => by cases e; exact hgF); clear hb3 hgr4 hB3)))
        have Hf4 := Lib.hid (Hf.out.mono (below_le hb4))
        have Hb4 := Lib.hid (Hb2.out.trans (hb4.mono Hb2.out.size))
        have hW4 := hB4.whole
        have HS := Lib.hid (scopes_of_any A f cs w4 (HV.out.keep Hb4.out) Hd.out Hf4.out)
        have HU := Lib.hid (table_uniq f); have Hl := Lib.hid (table_few f); have HNi := Lib.hid (Sc.table_nice hdot)
        clear hB4 hb4 hgF hdot
        have HLn := Lib.hid (table_len Hd.out)
        generalize Sc.table f = r at *
        obtain ⟨l, er⟩ := r
        unfold ScopePost at HS
        cases er with
        | some x =>
          dsimp only at HS
          go_upto_region 17 with (first
            | (refine wpList_load_seg rfl 31 _ rfl _ _ rfl _ _ hW4 Tryz.underlying31 rfl ?_ ?_; (· rw [Hcs.out.1]; exact infoFl))
            | (go_at_call 19; (with_reducible refine HS.out.mono ?_); rintro e w5 ⟨hb5, ev, rfl, gf, rfl, hBf⟩))
          go_wp2_with fail
          go_ret
          exact ⟨rfl, Hb4.out.trans (hb5.mono Hb4.out.size)⟩
        | none =>
          dsimp only at HS HU Hl HNi HLn
          go_upto_region 17 with (first
            | (refine wpList_load_seg rfl 31 _ rfl _ _ rfl _ _ hW4 Tryz.underlying31 rfl ?_ ?_; (· rw [Hcs.out.1]; exact infoFl))
            | (go_at_call 19; (with_reducible refine HS.out.mono ?_); rintro e w5 ⟨hb5, g5, rfl, hT5⟩))
          have Hb5 := Lib.hid (Hb4.out.trans (hb5.mono Hb4.out.size))
          have HT5 := Lib.hid hT5
          have HTy := Lib.hid (types_any w4 g5 [] l w5 hT5 Hl.out)
          unfold TypesPost at HTy
          clear hb5 hW4 hT5 HS
          go_wp2_with fail
          refine HTy.out.mono ?_
          rintro e w6 ⟨v6, rfl, hv6, hb6⟩
          have HT6 := Lib.hid (HT5.out.keep hb6)
          have Hb6 := Lib.hid (Hb5.out.trans (hb6.mono Hb5.out.size))
          have Hv6 := Lib.hid hv6
          obtain ⟨a6, c6, rfl, _, _, _⟩ := hv6.len
          obtain ⟨m, hm9⟩ : ∃ m, m = l.length := ⟨_, rfl⟩
          rw [← hm9] at Hv6 ⊢
          have Hm9 := Lib.hid hm9.symm
          have hms : m ≤ 9223372036854775807 := by have := Hl.out; omega
          clear hv6 hb6 hm9 HTy
          go_wp2_with fail
          go_loopw [100] (fun iv wr => ∃ k : Nat, k ≤ m ∧ iv = .int .i64 k ∧ Hid (Below w6.heap.size w6 wr)) (fun iv _ => m - (intOf iv).toNat)
          case atStart => exact ⟨0, Nat.zero_le _, rfl, Lib.hid (Below.refl _ _)⟩
          case round =>
            obtain ⟨k, hkm, rfl, HB⟩ := hrel
            by_cases hk : k < m
            · have hk1 : k < l.length := by rw [Hm9.out]; exact hk
              obtain ⟨d0, o0, hd0, hidx, hcell⟩ := FlatV.at (n := m) (cap := c6) (a := a6) (Hv6.out.mono (below_le HB.out)) tyC_len (by decide) (i := k) hk1 Tryz.underlying70 sizeTys
              have hr : wr.rangeAt d0 o0 (tyC l[k]) := hcell
              obtain ⟨sn, nn, hfull, hnd⟩ := HNi.out l[k] (List.getElem_mem hk1)
              have hfd := Sc.find_at HU.out hk1
              obtain ⟨hno, hn1, hn0⟩ := Sc.nice_outer (s := sn) hnd
              obtain ⟨y, hy⟩ : ∃ y, y = l[k] := ⟨_, rfl⟩
              rw [← hy] at hr hfull hfd
              have hlk := Sc.look_own hfd hfull hnd
              have hlf := Sc.look_full hfd [97, 110, 121, 46, 115, 99, 111, 112, 101]
              have Hlen : Hid (y.full.length ≤ 29000000 ∧ sn.length ≤ 29000000 ∧ nn.length ≤ 29000000) := Lib.hid (by
                have h1 := HLn.out y (hy ▸ List.getElem_mem hk1)
                have h2 : sn.length ≤ y.full.length ∧ nn.length ≤ y.full.length := by
                  rw [hfull]; unfold Sc.within; split
                  · rename_i e; subst e; exact ⟨Nat.zero_le _, Nat.le_refl _⟩
                  · simp only [List.length_append]; omega
                omega)
              have HFi := Lib.hid (fun w' (hb : Below w6.heap.size w6 w') => find_any w4 g5 [] l y.full w' (HT6.out.keep hb) HU.out Hl.out (by have := Hlen.out; omega))
              have HLo := Lib.hid (fun w' (hb : Below w6.heap.size w6 w') => look_any w4 g5 [] l sn nn w' (HT6.out.keep hb) HU.out Hl.out (by have := Hlen.out; omega) (by have := Hlen.out; omega))
              have HLf := Lib.hid (fun w' (hb : Below w6.heap.size w6 w') => look_any w4 g5 [] l [97, 110, 121, 46, 115, 99, 111, 112, 101] (46 :: y.full) w' (HT6.out.keep hb) HU.out Hl.out (by decide) (by rw [List.length_cons]; have := Hlen.out; omega))
              rw [hfd] at HFi; rw [hlk] at HLo; rw [hlf] at HLf
              unfold FindPost at HFi HLo HLf
              have HOy := Lib.hid (fun w' => outer_any y.full w' (by have := Hlen.out; omega))
              rw [hfull, hno, ← hfull] at HOy
              have hcat : (⟨#[46]⟩ : ByteArray) ++ toB y.full = toB (46 :: y.full) := toB_cat [46] y.full
              have hszf : (toB y.full).size ≤ 29000000 := by rw [toB_size]; exact Hlen.out.1
              have hszs : (toB sn).size ≤ (toB y.full).size := by
                rw [toB_size, toB_size, hfull]; unfold Sc.within; split
                · rename_i e; subst e; exact Nat.zero_le _
                · simp only [List.length_append]; omega
              have hcd := cut_drop y.full (toB sn).size
              have hq := neqSelf y
              have hG := eqGuardSTy
              clear hcell hy hfd hlk hlf hnd hd0 hk1
              by_cases hse : sn = []
              · have hown : y.full.drop (toB sn).size = nn := by
                  rw [hse, toB_size, List.length_nil, List.drop_zero, hfull]; exact hn0 hse
                rw [hown] at hcd
                have q9 : (toB sn).toList.isEmpty = true := isEmpty_yes (by rw [toB_size, hse]; rfl)
                clear hfull hno hn1 hn0 hown hse
                go_upto_region 22 with (first
                  | (refine wpList_load_seg rfl 59 _ rfl _ _ rfl _ _ hr Tryz.underlying59 rfl infoTy ?_)
                  | (refine wpList_alloc_lay rfl 59 rfl zTy zeroTy ?_; (intro w9 g9 hg9 hB9 hb9; clear hr))
                  | (refine wpList_store_all rfl 59 _ _ rfl g9 (tyC y) rfl rfl zTy hB9 infoTy rfl (one_tyC _) ?_; (intro w10 hB10 hgr10; have hb10 := Below.grown hb9 hgr10 hb9.size (fun _ e => by cases e; exact hg9); clear hb9 hgr10 hB9)))
                have Y0 : Hid (Below w6.heap.size w6 w10) := Lib.hid (HB.out.trans (hb10.mono HB.out.size))
                have B0 := Lib.hid hB10
                have y0 : w10.cell? ⟨g9, 0, none⟩ = some (.string (toB y.full)) := hB10.cell (o := 0) rfl
                have HOy2 := Lib.hid (HOy.out w10)
                clear hb10 hg9 hidx hB10
                go_upto_region 26 with (go_at_call 25; (with_reducible refine HOy2.out.mono ?_); rintro e w11 ⟨rfl, rfl⟩)
                go_upto_region 27 with (first
                  | (go_at_call 23; (refine (HFi.out _ Y0.out).mono ?_); rintro e c1 ⟨rfl, hbc⟩)
                  | (refine wpList_alloc_lay rfl 59 rfl zTy zeroTy ?_; (intro d1 g1' hg hB hb))
                  | (refine wpList_store_all rfl 59 _ _ rfl g1' (tyC y) rfl rfl zTy hB infoTy rfl (one_tyC y) ?_; (intro e1 hB' hgr; have hbs := Below.grown hb hgr hb.size (fun _ e => by cases e; exact hg); clear hb hgr hB hg)))
                have Y1 : Hid (Below w6.heap.size w6 e1) := Lib.hid (Y0.out.trans ((hbc.trans (hbs.mono hbc.size)).mono Y0.out.size))
                replace B0 := Lib.hid (Blk.below (B0.out.below hbc B0.out.lt) hbs (B0.out.below hbc B0.out.lt).lt)
                have B1 := Lib.hid hB'
                clear hbc hbs hB' y0
                go_upto_region 28 with (first
                  | (go_at_call 21; (refine (HLo.out _ Y1.out).mono ?_); rintro e c2 ⟨rfl, hbc⟩)
                  | (refine wpList_alloc_lay rfl 59 rfl zTy zeroTy ?_; (intro d2 g2' hg hB hb))
                  | (refine wpList_store_all rfl 59 _ _ rfl g2' (tyC y) rfl rfl zTy hB infoTy rfl (one_tyC y) ?_; (intro e2 hB' hgr; have hbs := Below.grown hb hgr hb.size (fun _ e => by cases e; exact hg); clear hb hgr hB hg)))
                have Y2 : Hid (Below w6.heap.size w6 e2) := Lib.hid (Y1.out.trans ((hbc.trans (hbs.mono hbc.size)).mono Y1.out.size))
                replace B0 := Lib.hid (Blk.below (B0.out.below hbc B0.out.lt) hbs (B0.out.below hbc B0.out.lt).lt)
                replace B1 := Lib.hid (Blk.below (B1.out.below hbc B1.out.lt) hbs (B1.out.below hbc B1.out.lt).lt)
                have B2 := Lib.hid hB'
                have y0 : e2.cell? ⟨g9, 0, none⟩ = some (.string (toB y.full)) := B0.out.cell (o := 0) rfl
                clear hbc hbs hB'
                go_upto_region 29 with (first
                  | (go_at_call 21; (refine (HLf.out _ Y2.out).mono ?_); rintro e c3 ⟨rfl, hbc⟩)
                  | (refine wpList_alloc_lay rfl 59 rfl zTy zeroTy ?_; (intro d3 g3' hg hB hb))
                  | (refine wpList_store_all rfl 59 _ _ rfl g3' (tyC y) rfl rfl zTy hB infoTy rfl (one_tyC y) ?_; (intro e3 hB' hgr; have hbs := Below.grown hb hgr hb.size (fun _ e => by cases e; exact hg); clear hb hgr hB hg)))
                have Y3 : Hid (Below w6.heap.size w6 e3) := Lib.hid (Y2.out.trans ((hbc.trans (hbs.mono hbc.size)).mono Y2.out.size))
                replace B0 := Lib.hid (Blk.below (B0.out.below hbc B0.out.lt) hbs (B0.out.below hbc B0.out.lt).lt)
                replace B1 := Lib.hid (Blk.below (B1.out.below hbc B1.out.lt) hbs (B1.out.below hbc B1.out.lt).lt)
                replace B2 := Lib.hid (Blk.below (B2.out.below hbc B2.out.lt) hbs (B2.out.below hbc B2.out.lt).lt)
                have B3 := Lib.hid hB'
                have W0 := B0.out.whole; have W1 := B1.out.whole; have W2 := B2.out.whole; have W3 := B3.out.whole
                clear hbc hbs hB' y0
                go_wp2_with (first
                  | (refine wpList_load_seg rfl 59 _ rfl _ _ rfl _ _ W0 Tryz.underlying59 rfl infoTy ?_)
                  | (refine wpList_load_seg rfl 59 _ rfl _ _ rfl _ _ W1 Tryz.underlying59 rfl infoTy ?_)
                  | (refine wpList_load_seg rfl 59 _ rfl _ _ rfl _ _ W2 Tryz.underlying59 rfl infoTy ?_)
                  | (refine wpList_load_seg rfl 59 _ rfl _ _ rfl _ _ W3 Tryz.underlying59 rfl infoTy ?_))
                go_roundw
                case rel => exact ⟨k + 1, by omega, by go_num, Y3⟩
                case measure => simp [intOf]; omega
              · have hown : y.full.drop (toB sn).size = 46 :: nn := by
                  rw [toB_size, hfull]; exact hn1 hse
                rw [hown] at hcd
                have q9 : (toB sn).toList.isEmpty = false := isEmpty_no (by rw [toB_size]; exact fun e => hse (List.eq_nil_of_length_eq_zero e))
                have hc1 := cut_tail (46 :: nn)
                rw [List.tail_cons] at hc1
                have hs1 : 1 ≤ (toB (46 :: nn)).size := by rw [toB_size]; simp
                clear hfull hno hn1 hn0 hown hse
                go_upto_region 22 with (first
                  | (refine wpList_load_seg rfl 59 _ rfl _ _ rfl _ _ hr Tryz.underlying59 rfl infoTy ?_)
                  | (refine wpList_alloc_lay rfl 59 rfl zTy zeroTy ?_; (intro w9 g9 hg9 hB9 hb9; clear hr))
                  | (refine wpList_store_all rfl 59 _ _ rfl g9 (tyC y) rfl rfl zTy hB9 infoTy rfl (one_tyC _) ?_; (intro w10 hB10 hgr10; have hb10 := Below.grown hb9 hgr10 hb9.size (fun _ e => by cases e; exact hg9); clear hb9 hgr10 hB9)))
                have Y0 : Hid (Below w6.heap.size w6 w10) := Lib.hid (HB.out.trans (hb10.mono HB.out.size))
                have B0 := Lib.hid hB10
                have y0 : w10.cell? ⟨g9, 0, none⟩ = some (.string (toB y.full)) := hB10.cell (o := 0) rfl
                have HOy2 := Lib.hid (HOy.out w10)
                clear hb10 hg9 hidx hB10
                go_upto_region 26 with (go_at_call 25; (with_reducible refine HOy2.out.mono ?_); rintro e w11 ⟨rfl, rfl⟩)
                go_upto_region 27 with (first
                  | (go_at_call 23; (refine (HFi.out _ Y0.out).mono ?_); rintro e c1 ⟨rfl, hbc⟩)
                  | (refine wpList_alloc_lay rfl 59 rfl zTy zeroTy ?_; (intro d1 g1' hg hB hb))
                  | (refine wpList_store_all rfl 59 _ _ rfl g1' (tyC y) rfl rfl zTy hB infoTy rfl (one_tyC y) ?_; (intro e1 hB' hgr; have hbs := Below.grown hb hgr hb.size (fun _ e => by cases e; exact hg); clear hb hgr hB hg)))
                have Y1 : Hid (Below w6.heap.size w6 e1) := Lib.hid (Y0.out.trans ((hbc.trans (hbs.mono hbc.size)).mono Y0.out.size))
                replace B0 := Lib.hid (Blk.below (B0.out.below hbc B0.out.lt) hbs (B0.out.below hbc B0.out.lt).lt)
                have B1 := Lib.hid hB'
                clear hbc hbs hB' y0
                go_upto_region 28 with (first
                  | (go_at_call 21; (refine (HLo.out _ Y1.out).mono ?_); rintro e c2 ⟨rfl, hbc⟩)
                  | (refine wpList_alloc_lay rfl 59 rfl zTy zeroTy ?_; (intro d2 g2' hg hB hb))
                  | (refine wpList_store_all rfl 59 _ _ rfl g2' (tyC y) rfl rfl zTy hB infoTy rfl (one_tyC y) ?_; (intro e2 hB' hgr; have hbs := Below.grown hb hgr hb.size (fun _ e => by cases e; exact hg); clear hb hgr hB hg)))
                have Y2 : Hid (Below w6.heap.size w6 e2) := Lib.hid (Y1.out.trans ((hbc.trans (hbs.mono hbc.size)).mono Y1.out.size))
                replace B0 := Lib.hid (Blk.below (B0.out.below hbc B0.out.lt) hbs (B0.out.below hbc B0.out.lt).lt)
                replace B1 := Lib.hid (Blk.below (B1.out.below hbc B1.out.lt) hbs (B1.out.below hbc B1.out.lt).lt)
                have B2 := Lib.hid hB'
                have y0 : e2.cell? ⟨g9, 0, none⟩ = some (.string (toB y.full)) := B0.out.cell (o := 0) rfl
                clear hbc hbs hB'
                go_upto_region 29 with (first
                  | (go_at_call 21; (refine (HLf.out _ Y2.out).mono ?_); rintro e c3 ⟨rfl, hbc⟩)
                  | (refine wpList_alloc_lay rfl 59 rfl zTy zeroTy ?_; (intro d3 g3' hg hB hb))
                  | (refine wpList_store_all rfl 59 _ _ rfl g3' (tyC y) rfl rfl zTy hB infoTy rfl (one_tyC y) ?_; (intro e3 hB' hgr; have hbs := Below.grown hb hgr hb.size (fun _ e => by cases e; exact hg); clear hb hgr hB hg)))
                have Y3 : Hid (Below w6.heap.size w6 e3) := Lib.hid (Y2.out.trans ((hbc.trans (hbs.mono hbc.size)).mono Y2.out.size))
                replace B0 := Lib.hid (Blk.below (B0.out.below hbc B0.out.lt) hbs (B0.out.below hbc B0.out.lt).lt)
                replace B1 := Lib.hid (Blk.below (B1.out.below hbc B1.out.lt) hbs (B1.out.below hbc B1.out.lt).lt)
                replace B2 := Lib.hid (Blk.below (B2.out.below hbc B2.out.lt) hbs (B2.out.below hbc B2.out.lt).lt)
                have B3 := Lib.hid hB'
                have W0 := B0.out.whole; have W1 := B1.out.whole; have W2 := B2.out.whole; have W3 := B3.out.whole
                clear hbc hbs hB' y0
                go_wp2_with (first
                  | (refine wpList_load_seg rfl 59 _ rfl _ _ rfl _ _ W0 Tryz.underlying59 rfl infoTy ?_)
                  | (refine wpList_load_seg rfl 59 _ rfl _ _ rfl _ _ W1 Tryz.underlying59 rfl infoTy ?_)
                  | (refine wpList_load_seg rfl 59 _ rfl _ _ rfl _ _ W2 Tryz.underlying59 rfl infoTy ?_)
                  | (refine wpList_load_seg rfl 59 _ rfl _ _ rfl _ _ W3 Tryz.underlying59 rfl infoTy ?_))
                go_roundw
                case rel => exact ⟨k + 1, by omega, by go_num, Y3⟩
                case measure => simp [intOf]; omega
            · obtain rfl : m = k := by omega
              clear hkm hk
              go_wp2_with fail
              go_ret
              exact ⟨rfl, Hb6.out.trans (HB.out.mono Hb6.out.size)⟩
  · rw [decide_eq_false he] at HOu
    have q2 : (toB sl).toList.isEmpty = false := isEmpty_no (by rw [toB_size]; exact fun e => he (List.eq_nil_of_length_eq_zero e))
    have hlt := Sc.lastDot_lt he
    have hcut := outer_cut sl
    rw [← hos] at hcut
    have hqb := toB_beq sl (Sc.outer sl)
    have hne : ¬ sl = Sc.outer sl := fun e => by
      have h3 := Sc.outer_lt he
      rw [← e] at h3; omega
    rw [decide_eq_false hne] at hqb
    have hlt2 : (toB (Sc.outer sl)).size < (toB sl).size := by omega
    have hlI : ¬ ((toB sl).size : Int) ≤ ((toB (Sc.outer sl)).size : Int) := by omega
    have hlI2 : ((toB (Sc.outer sl)).size : Int) < ((toB sl).size : Int) := by omega
    have hole : (toB (Sc.outer sl)).size ≤ 300 := by omega
    simp only [Bool.not_false] at HOu
    generalize Sc.outer sl = o at *
    clear h1 h2 hV hsz2 hm2 hos hlt hne he hsl
    go_enter Tryz.func5, Tryz.ntmps5
    go_wp2_with fail
    refine HA.out.mono ?_
    rintro e w1 ⟨rfl, hb1⟩
    have HV1 := Lib.hid (HV.out.keep hb1)
    have Hb1 := Lib.hid hb1
    have HS1 := Lib.hid (spost_any A s w1 HV1.out.d Hm.out)
    have HO1 := Lib.hid (HOu.out w1)
    unfold SPost at HS1
    clear hb1 HA HOu
    go_upto_region 8 with (go_at_call 25; (with_reducible refine HO1.out.mono ?_); rintro e w2 ⟨rfl, rfl⟩)
    go_wp2_with fail
    go_loopw [7] (fun iv wr => ∃ i : Nat, iv = .int .i64 i ∧ (toB o).size + 1 ≤ i ∧ i ≤ 302 ∧ wr = w2) (fun iv _ => 303 - (intOf iv).toNat)
    case atStart => exact ⟨(toB o).size + 1, by go_num, Nat.le_refl _, by omega, rfl⟩
    case round =>
      obtain ⟨i, rfl, hi1, hi2, rfl⟩ := hrel
      by_cases hlt : i < (toB sl).size
      · have hx := HBd.out i hlt (by omega)
        have qx : ((((toB sl)[i].toNat : Nat) : Int) == 46) = false := beq_eq_false_iff_ne.2 hx
        clear hx
        go_wp2_with fail
        go_roundw
        case rel => exact ⟨i + 1, by go_num, by omega, by omega, by first | rfl | trivial⟩
        case measure => simp [intOf]; omega
      · clear HBd hi1 hi2 hcut hqb hlt2 hlI hlI2
        go_wp2_with fail
        refine HS1.out.mono ?_
        rintro e w2 ⟨hb2, ⟨g2, rfl⟩ | ⟨f, cs, rfl, hf, hd, hfew, hdot⟩⟩
        · have Hb2 := Lib.hid (Hb1.out.trans (hb2.mono Hb1.out.size))
          clear hb2
          go_upto_region 14 with (first
            | (refine wpList_alloc_lay rfl 31 rfl zFl zeroFl ?_; (intro w4 g4 hg4 hB4 hb4))
            | (refine wpList_store_all rfl 31 _ _ rfl g4 zFl rfl rfl zFl hB4 infoFl rfl (by decide) ?_; (intro w5 hB5 hgr5; have hb5 := Below.grown hb4 hgr5 hb4.size (fun _ e => by cases e; exact hg4); clear hb4 hgr5 hB4)))
          go_wp2_with fail
          go_ret
          exact ⟨rfl, Hb2.out.trans (hb5.mono Hb2.out.size)⟩
        have Hb2 := Lib.hid (Hb1.out.trans (hb2.mono Hb1.out.size))
        have Hf := Lib.hid hf; have Hd := Lib.hid hd
        have Hcs := Lib.hid (fil_form hf)
        clear hb2 hf hd hfew HS1
        go_upto_region 14 with (first
          | (refine wpList_alloc_lay rfl 31 rfl zFl zeroFl ?_; (intro w3 gF hgF hB3 hb3))
          | (refine wpList_store_all rfl 31 _ _ rfl gF cs rfl rfl zFl hB3 ?_ ?_ ?_ ?_; (· rw [Hcs.out.1]; exact infoFl); (· exact Hcs.out.1); (· exact Hcs.out.2); (intro w4 hB4 hgr4; have hb4 := Below.grown hb3 hgr4 hb3.size (fun _ e => by cases e; exact hgF); clear hb3 hgr4 hB3)))
        have Hf4 := Lib.hid (Hf.out.mono (below_le hb4))
        have Hb4 := Lib.hid (Hb2.out.trans (hb4.mono Hb2.out.size))
        have hW4 := hB4.whole
        have HS := Lib.hid (scopes_of_any A f cs w4 (HV.out.keep Hb4.out) Hd.out Hf4.out)
        have HU := Lib.hid (table_uniq f); have Hl := Lib.hid (table_few f); have HNi := Lib.hid (Sc.table_nice hdot)
        clear hB4 hb4 hgF hdot
        have HLn := Lib.hid (table_len Hd.out)
        generalize Sc.table f = r at *
        obtain ⟨l, er⟩ := r
        unfold ScopePost at HS
        cases er with
        | some x =>
          dsimp only at HS
          go_upto_region 17 with (first
            | (refine wpList_load_seg rfl 31 _ rfl _ _ rfl _ _ hW4 Tryz.underlying31 rfl ?_ ?_; (· rw [Hcs.out.1]; exact infoFl))
            | (go_at_call 19; (with_reducible refine HS.out.mono ?_); rintro e w5 ⟨hb5, ev, rfl, gf, rfl, hBf⟩))
          go_wp2_with fail
          go_ret
          exact ⟨rfl, Hb4.out.trans (hb5.mono Hb4.out.size)⟩
        | none =>
          dsimp only at HS HU Hl HNi HLn
          go_upto_region 17 with (first
            | (refine wpList_load_seg rfl 31 _ rfl _ _ rfl _ _ hW4 Tryz.underlying31 rfl ?_ ?_; (· rw [Hcs.out.1]; exact infoFl))
            | (go_at_call 19; (with_reducible refine HS.out.mono ?_); rintro e w5 ⟨hb5, g5, rfl, hT5⟩))
          have Hb5 := Lib.hid (Hb4.out.trans (hb5.mono Hb4.out.size))
          have HT5 := Lib.hid hT5
          have HTy := Lib.hid (types_any w4 g5 [] l w5 hT5 Hl.out)
          unfold TypesPost at HTy
          clear hb5 hW4 hT5 HS
          go_wp2_with fail
          refine HTy.out.mono ?_
          rintro e w6 ⟨v6, rfl, hv6, hb6⟩
          have HT6 := Lib.hid (HT5.out.keep hb6)
          have Hb6 := Lib.hid (Hb5.out.trans (hb6.mono Hb5.out.size))
          have Hv6 := Lib.hid hv6
          obtain ⟨a6, c6, rfl, _, _, _⟩ := hv6.len
          obtain ⟨m, hm9⟩ : ∃ m, m = l.length := ⟨_, rfl⟩
          rw [← hm9] at Hv6 ⊢
          have Hm9 := Lib.hid hm9.symm
          have hms : m ≤ 9223372036854775807 := by have := Hl.out; omega
          clear hv6 hb6 hm9 HTy
          go_wp2_with fail
          go_loopw [100] (fun iv wr => ∃ k : Nat, k ≤ m ∧ iv = .int .i64 k ∧ Hid (Below w6.heap.size w6 wr)) (fun iv _ => m - (intOf iv).toNat)
          case atStart => exact ⟨0, Nat.zero_le _, rfl, Lib.hid (Below.refl _ _)⟩
          case round =>
            obtain ⟨k, hkm, rfl, HB⟩ := hrel
            by_cases hk : k < m
            · have hk1 : k < l.length := by rw [Hm9.out]; exact hk
              obtain ⟨d0, o0, hd0, hidx, hcell⟩ := FlatV.at (n := m) (cap := c6) (a := a6) (Hv6.out.mono (below_le HB.out)) tyC_len (by decide) (i := k) hk1 Tryz.underlying70 sizeTys
              have hr : wr.rangeAt d0 o0 (tyC l[k]) := hcell
              obtain ⟨sn, nn, hfull, hnd⟩ := HNi.out l[k] (List.getElem_mem hk1)
              have hfd := Sc.find_at HU.out hk1
              obtain ⟨hno, hn1, hn0⟩ := Sc.nice_outer (s := sn) hnd
              obtain ⟨y, hy⟩ : ∃ y, y = l[k] := ⟨_, rfl⟩
              rw [← hy] at hr hfull hfd
              have hlk := Sc.look_own hfd hfull hnd
              have hlf := Sc.look_full hfd [97, 110, 121, 46, 115, 99, 111, 112, 101]
              have Hlen : Hid (y.full.length ≤ 29000000 ∧ sn.length ≤ 29000000 ∧ nn.length ≤ 29000000) := Lib.hid (by
                have h1 := HLn.out y (hy ▸ List.getElem_mem hk1)
                have h2 : sn.length ≤ y.full.length ∧ nn.length ≤ y.full.length := by
                  rw [hfull]; unfold Sc.within; split
                  · rename_i e; subst e; exact ⟨Nat.zero_le _, Nat.le_refl _⟩
                  · simp only [List.length_append]; omega
                omega)
              have HFi := Lib.hid (fun w' (hb : Below w6.heap.size w6 w') => find_any w4 g5 [] l y.full w' (HT6.out.keep hb) HU.out Hl.out (by have := Hlen.out; omega))
              have HLo := Lib.hid (fun w' (hb : Below w6.heap.size w6 w') => look_any w4 g5 [] l sn nn w' (HT6.out.keep hb) HU.out Hl.out (by have := Hlen.out; omega) (by have := Hlen.out; omega))
              have HLf := Lib.hid (fun w' (hb : Below w6.heap.size w6 w') => look_any w4 g5 [] l [97, 110, 121, 46, 115, 99, 111, 112, 101] (46 :: y.full) w' (HT6.out.keep hb) HU.out Hl.out (by decide) (by rw [List.length_cons]; have := Hlen.out; omega))
              rw [hfd] at HFi; rw [hlk] at HLo; rw [hlf] at HLf
              unfold FindPost at HFi HLo HLf
              have HOy := Lib.hid (fun w' => outer_any y.full w' (by have := Hlen.out; omega))
              rw [hfull, hno, ← hfull] at HOy
              have hcat : (⟨#[46]⟩ : ByteArray) ++ toB y.full = toB (46 :: y.full) := toB_cat [46] y.full
              have hszf : (toB y.full).size ≤ 29000000 := by rw [toB_size]; exact Hlen.out.1
              have hszs : (toB sn).size ≤ (toB y.full).size := by
                rw [toB_size, toB_size, hfull]; unfold Sc.within; split
                · rename_i e; subst e; exact Nat.zero_le _
                · simp only [List.length_append]; omega
              have hcd := cut_drop y.full (toB sn).size
              have hq := neqSelf y
              have hG := eqGuardSTy
              clear hcell hy hfd hlk hlf hnd hd0 hk1
              by_cases hse : sn = []
              · have hown : y.full.drop (toB sn).size = nn := by
                  rw [hse, toB_size, List.length_nil, List.drop_zero, hfull]; exact hn0 hse
                rw [hown] at hcd
                have q9 : (toB sn).toList.isEmpty = true := isEmpty_yes (by rw [toB_size, hse]; rfl)
                clear hfull hno hn1 hn0 hown hse
                go_upto_region 22 with (first
                  | (refine wpList_load_seg rfl 59 _ rfl _ _ rfl _ _ hr Tryz.underlying59 rfl infoTy ?_)
                  | (refine wpList_alloc_lay rfl 59 rfl zTy zeroTy ?_; (intro w9 g9 hg9 hB9 hb9; clear hr))
                  | (refine wpList_store_all rfl 59 _ _ rfl g9 (tyC y) rfl rfl zTy hB9 infoTy rfl (one_tyC _) ?_; (intro w10 hB10 hgr10; have hb10 := Below.grown hb9 hgr10 hb9.size (fun _ e => by cases e; exact hg9); clear hb9 hgr10 hB9)))
                have Y0 : Hid (Below w6.heap.size w6 w10) := Lib.hid (HB.out.trans (hb10.mono HB.out.size))
                have B0 := Lib.hid hB10
                have y0 : w10.cell? ⟨g9, 0, none⟩ = some (.string (toB y.full)) := hB10.cell (o := 0) rfl
                have HOy2 := Lib.hid (HOy.out w10)
                clear hb10 hg9 hidx hB10
                go_upto_region 26 with (go_at_call 25; (with_reducible refine HOy2.out.mono ?_); rintro e w11 ⟨rfl, rfl⟩)
                go_upto_region 27 with (first
                  | (go_at_call 23; (refine (HFi.out _ Y0.out).mono ?_); rintro e c1 ⟨rfl, hbc⟩)
                  | (refine wpList_alloc_lay rfl 59 rfl zTy zeroTy ?_; (intro d1 g1' hg hB hb))
                  | (refine wpList_store_all rfl 59 _ _ rfl g1' (tyC y) rfl rfl zTy hB infoTy rfl (one_tyC y) ?_; (intro e1 hB' hgr; have hbs := Below.grown hb hgr hb.size (fun _ e => by cases e; exact hg); clear hb hgr hB hg)))
                have Y1 : Hid (Below w6.heap.size w6 e1) := Lib.hid (Y0.out.trans ((hbc.trans (hbs.mono hbc.size)).mono Y0.out.size))
                replace B0 := Lib.hid (Blk.below (B0.out.below hbc B0.out.lt) hbs (B0.out.below hbc B0.out.lt).lt)
                have B1 := Lib.hid hB'
                clear hbc hbs hB' y0
                go_upto_region 28 with (first
                  | (go_at_call 21; (refine (HLo.out _ Y1.out).mono ?_); rintro e c2 ⟨rfl, hbc⟩)
                  | (refine wpList_alloc_lay rfl 59 rfl zTy zeroTy ?_; (intro d2 g2' hg hB hb))
                  | (refine wpList_store_all rfl 59 _ _ rfl g2' (tyC y) rfl rfl zTy hB infoTy rfl (one_tyC y) ?_; (intro e2 hB' hgr; have hbs := Below.grown hb hgr hb.size (fun _ e => by cases e; exact hg); clear hb hgr hB hg)))
                have Y2 : Hid (Below w6.heap.size w6 e2) := Lib.hid (Y1.out.trans ((hbc.trans (hbs.mono hbc.size)).mono Y1.out.size))
                replace B0 := Lib.hid (Blk.below (B0.out.below hbc B0.out.lt) hbs (B0.out.below hbc B0.out.lt).lt)
                replace B1 := Lib.hid (Blk.below (B1.out.below hbc B1.out.lt) hbs (B1.out.below hbc B1.out.lt).lt)
                have B2 := Lib.hid hB'
                have y0 : e2.cell? ⟨g9, 0, none⟩ = some (.string (toB y.full)) := B0.out.cell (o := 0) rfl
                clear hbc hbs hB'
                go_upto_region 29 with (first
                  | (go_at_call 21; (refine (HLf.out _ Y2.out).mono ?_); rintro e c3 ⟨rfl, hbc⟩)
                  | (refine wpList_alloc_lay rfl 59 rfl zTy zeroTy ?_; (intro d3 g3' hg hB hb))
                  | (refine wpList_store_all rfl 59 _ _ rfl g3' (tyC y) rfl rfl zTy hB infoTy rfl (one_tyC y) ?_; (intro e3 hB' hgr; have hbs := Below.grown hb hgr hb.size (fun _ e => by cases e; exact hg); clear hb hgr hB hg)))
                have Y3 : Hid (Below w6.heap.size w6 e3) := Lib.hid (Y2.out.trans ((hbc.trans (hbs.mono hbc.size)).mono Y2.out.size))
                replace B0 := Lib.hid (Blk.below (B0.out.below hbc B0.out.lt) hbs (B0.out.below hbc B0.out.lt).lt)
                replace B1 := Lib.hid (Blk.below (B1.out.below hbc B1.out.lt) hbs (B1.out.below hbc B1.out.lt).lt)
                replace B2 := Lib.hid (Blk.below (B2.out.below hbc B2.out.lt) hbs (B2.out.below hbc B2.out.lt).lt)
                have B3 := Lib.hid hB'
                have W0 := B0.out.whole; have W1 := B1.out.whole; have W2 := B2.out.whole; have W3 := B3.out.whole
                clear hbc hbs hB' y0
                go_wp2_with (first
                  | (refine wpList_load_seg rfl 59 _ rfl _ _ rfl _ _ W0 Tryz.underlying59 rfl infoTy ?_)
                  | (refine wpList_load_seg rfl 59 _ rfl _ _ rfl _ _ W1 Tryz.underlying59 rfl infoTy ?_)
                  | (refine wpList_load_seg rfl 59 _ rfl _ _ rfl _ _ W2 Tryz.underlying59 rfl infoTy ?_)
                  | (refine wpList_load_seg rfl 59 _ rfl _ _ rfl _ _ W3 Tryz.underlying59 rfl infoTy ?_))
                go_roundw
                case rel => exact ⟨k + 1, by omega, by go_num, Y3⟩
                case measure => simp [intOf]; omega
              · have hown : y.full.drop (toB sn).size = 46 :: nn := by
                  rw [toB_size, hfull]; exact hn1 hse
                rw [hown] at hcd
                have q9 : (toB sn).toList.isEmpty = false := isEmpty_no (by rw [toB_size]; exact fun e => hse (List.eq_nil_of_length_eq_zero e))
                have hc1 := cut_tail (46 :: nn)
                rw [List.tail_cons] at hc1
                have hs1 : 1 ≤ (toB (46 :: nn)).size := by rw [toB_size]; simp
                clear hfull hno hn1 hn0 hown hse
                go_upto_region 22 with (first
                  | (refine wpList_load_seg rfl 59 _ rfl _ _ rfl _ _ hr Tryz.underlying59 rfl infoTy ?_)
                  | (refine wpList_alloc_lay rfl 59 rfl zTy zeroTy ?_; (intro w9 g9 hg9 hB9 hb9; clear hr))
                  | (refine wpList_store_all rfl 59 _ _ rfl g9 (tyC y) rfl rfl zTy hB9 infoTy rfl (one_tyC _) ?_; (intro w10 hB10 hgr10; have hb10 := Below.grown hb9 hgr10 hb9.size (fun _ e => by cases e; exact hg9); clear hb9 hgr10 hB9)))
                have Y0 : Hid (Below w6.heap.size w6 w10) := Lib.hid (HB.out.trans (hb10.mono HB.out.size))
                have B0 := Lib.hid hB10
                have y0 : w10.cell? ⟨g9, 0, none⟩ = some (.string (toB y.full)) := hB10.cell (o := 0) rfl
                have HOy2 := Lib.hid (HOy.out w10)
                clear hb10 hg9 hidx hB10
                go_upto_region 26 with (go_at_call 25; (with_reducible refine HOy2.out.mono ?_); rintro e w11 ⟨rfl, rfl⟩)
                go_upto_region 27 with (first
                  | (go_at_call 23; (refine (HFi.out _ Y0.out).mono ?_); rintro e c1 ⟨rfl, hbc⟩)
                  | (refine wpList_alloc_lay rfl 59 rfl zTy zeroTy ?_; (intro d1 g1' hg hB hb))
                  | (refine wpList_store_all rfl 59 _ _ rfl g1' (tyC y) rfl rfl zTy hB infoTy rfl (one_tyC y) ?_; (intro e1 hB' hgr; have hbs := Below.grown hb hgr hb.size (fun _ e => by cases e; exact hg); clear hb hgr hB hg)))
                have Y1 : Hid (Below w6.heap.size w6 e1) := Lib.hid (Y0.out.trans ((hbc.trans (hbs.mono hbc.size)).mono Y0.out.size))
                replace B0 := Lib.hid (Blk.below (B0.out.below hbc B0.out.lt) hbs (B0.out.below hbc B0.out.lt).lt)
                have B1 := Lib.hid hB'
                clear hbc hbs hB' y0
                go_upto_region 28 with (first
                  | (go_at_call 21; (refine (HLo.out _ Y1.out).mono ?_); rintro e c2 ⟨rfl, hbc⟩)
                  | (refine wpList_alloc_lay rfl 59 rfl zTy zeroTy ?_; (intro d2 g2' hg hB hb))
                  | (refine wpList_store_all rfl 59 _ _ rfl g2' (tyC y) rfl rfl zTy hB infoTy rfl (one_tyC y) ?_; (intro e2 hB' hgr; have hbs := Below.grown hb hgr hb.size (fun _ e => by cases e; exact hg); clear hb hgr hB hg)))
                have Y2 : Hid (Below w6.heap.size w6 e2) := Lib.hid (Y1.out.trans ((hbc.trans (hbs.mono hbc.size)).mono Y1.out.size))
                replace B0 := Lib.hid (Blk.below (B0.out.below hbc B0.out.lt) hbs (B0.out.below hbc B0.out.lt).lt)
                replace B1 := Lib.hid (Blk.below (B1.out.below hbc B1.out.lt) hbs (B1.out.below hbc B1.out.lt).lt)
                have B2 := Lib.hid hB'
                have y0 : e2.cell? ⟨g9, 0, none⟩ = some (.string (toB y.full)) := B0.out.cell (o := 0) rfl
                clear hbc hbs hB'
                go_upto_region 29 with (first
                  | (go_at_call 21; (refine (HLf.out _ Y2.out).mono ?_); rintro e c3 ⟨rfl, hbc⟩)
                  | (refine wpList_alloc_lay rfl 59 rfl zTy zeroTy ?_; (intro d3 g3' hg hB hb))
                  | (refine wpList_store_all rfl 59 _ _ rfl g3' (tyC y) rfl rfl zTy hB infoTy rfl (one_tyC y) ?_; (intro e3 hB' hgr; have hbs := Below.grown hb hgr hb.size (fun _ e => by cases e; exact hg); clear hb hgr hB hg)))
                have Y3 : Hid (Below w6.heap.size w6 e3) := Lib.hid (Y2.out.trans ((hbc.trans (hbs.mono hbc.size)).mono Y2.out.size))
                replace B0 := Lib.hid (Blk.below (B0.out.below hbc B0.out.lt) hbs (B0.out.below hbc B0.out.lt).lt)
                replace B1 := Lib.hid (Blk.below (B1.out.below hbc B1.out.lt) hbs (B1.out.below hbc B1.out.lt).lt)
                replace B2 := Lib.hid (Blk.below (B2.out.below hbc B2.out.lt) hbs (B2.out.below hbc B2.out.lt).lt)
                have B3 := Lib.hid hB'
                have W0 := B0.out.whole; have W1 := B1.out.whole; have W2 := B2.out.whole; have W3 := B3.out.whole
                clear hbc hbs hB' y0
                go_wp2_with (first
                  | (refine wpList_load_seg rfl 59 _ rfl _ _ rfl _ _ W0 Tryz.underlying59 rfl infoTy ?_)
                  | (refine wpList_load_seg rfl 59 _ rfl _ _ rfl _ _ W1 Tryz.underlying59 rfl infoTy ?_)
                  | (refine wpList_load_seg rfl 59 _ rfl _ _ rfl _ _ W2 Tryz.underlying59 rfl infoTy ?_)
                  | (refine wpList_load_seg rfl 59 _ rfl _ _ rfl _ _ W3 Tryz.underlying59 rfl infoTy ?_))
                go_roundw
                case rel => exact ⟨k + 1, by omega, by go_num, Y3⟩
                case measure => simp [intOf]; omega
            · obtain rfl : m = k := by omega
              clear hkm hk
              go_wp2_with fail
              go_ret
              exact ⟨rfl, Hb6.out.trans (HB.out.mono Hb6.out.size)⟩

end Go.Proofs.YtiofhfcohhfihaaGreatDoor

namespace Go.Proofs.YtiofhfcohhfihaaGreatDoor
open Go.ChangeShapes Go.WideShapes Go.ChangeAt Go.RowKit
set_option linter.unusedVariables false

theorem of_laid {W : World} (h : laidMetH Tryz.prog [("math/bits.deBruijn32tab", Rows.laid_math_bits_deBruijn32tab), ("math/bits.deBruijn64tab", Rows.laid_math_bits_deBruijn64tab), ("internal/strconv.uint64pow10", Rows.laid_internal_strconv_uint64pow10), ("redline/api.ErrRange", Rows.laid_redline_api_ErrRange), ("redline/api.ErrLong", Rows.laid_redline_api_ErrLong), ("redline/api.ErrDepth", Rows.laid_redline_api_ErrDepth), ("redline/api.ErrForm", Rows.laid_redline_api_ErrForm), ("redline/api.ErrDup", Rows.laid_redline_api_ErrDup), ("strconv.ErrRange", Rows.laid_strconv_ErrRange), ("strconv.ErrSyntax", Rows.laid_strconv_ErrSyntax)] W) (hsh : W.ShapedOpen Tryz.prog) : ∃ A, VarsU A W := by
  rw [MakeChecks.laidMetH_plain _ _ _ (by kernel_rfl)] at h
  obtain ⟨ps, h1, _, hrows⟩ := h
  have key := laid_one (P := Tryz.prog) (W := W) Tryz.underlying25 lo_rowE Tryz.underlying264 Tryz.underlying266 rfl rfl Tryz.underlying9 (by kernel_rfl) (by kernel_rfl) _ ps h1 hrows
  obtain ⟨a0, e0⟩ := key "redline/api.ErrRange" _ (List.mem_of_getElem? (i := 3) rfl) 6 (by kernel_rfl) (by kernel_rfl)
  obtain ⟨a2, e2⟩ := key "redline/api.ErrLong" _ (List.mem_of_getElem? (i := 4) rfl) 0 (by kernel_rfl) (by kernel_rfl)
  obtain ⟨a7, e7⟩ := key "redline/api.ErrDepth" _ (List.mem_of_getElem? (i := 5) rfl) 2 (by kernel_rfl) (by kernel_rfl)
  obtain ⟨a8, e8⟩ := key "redline/api.ErrForm" _ (List.mem_of_getElem? (i := 6) rfl) 1 (by kernel_rfl) (by kernel_rfl)
  obtain ⟨ad, ed⟩ := key "redline/api.ErrDup" _ (List.mem_of_getElem? (i := 7) rfl) 3 (by kernel_rfl) (by kernel_rfl)
  obtain ⟨ac, ec⟩ := key "strconv.ErrRange" _ (List.mem_of_getElem? (i := 8) rfl) 22 (by kernel_rfl) (by kernel_rfl)
  exact ⟨fun i => if i = 0 then a0 else if i = 2 then a2 else if i = 7 then a7 else if i = 10 then ad else a8, ⟨⟨e0, e2, e8, ⟨_, _, ec⟩, Tryz.laysM143.s1_3 W hsh⟩, e7⟩, ed⟩

theorem scopesOwn_walk (W : World) (h : ∃ A, VarsU A W) (s : ByteArray) (hm : s.size ≤ maxLen) (t : ByteArray) (hm2 : t.size ≤ maxLen) :
    Calls Tryz.prog 5 #[.string s, .string t] W fun e w' => e = .returned (.bool true) ∧ Below W.heap.size W w' := by
  obtain ⟨A, hV⟩ := h
  exact scopesOwn_main A s t W hV hm hm2

end Go.Proofs.YtiofhfcohhfihaaGreatDoor
