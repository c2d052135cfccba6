/- The reference redlineref09, walked: Find, Look. The reference redlineref09, walked: Look. -/
import Derived.Test.YtiofhfcohhfihaaGreatDoorScRefOf
import Derived.Test.YtiofhfcohhfihaaGreatDoorGroupE

namespace Go.Proofs.YtiofhfcohhfihaaGreatDoor
open Go.RowKit
set_option linter.unusedVariables false
set_option linter.unusedSimpArgs false

theorem rty_build0 (w : World) : (Instr.build 62 #[]).run Tryz.prog w = .ok (.agg zTy.toArray) w := by kernel_rfl

set_option maxHeartbeats 4000000 in
set_option maxRecDepth 100000 in
theorem rfind09_any (v : Value) (l : List Sc.Ty) (F : Lx.Bs) (w : World) (hl : l.length ≤ 40) (h : FlatV tyC (frag w) v l) :
    Calls Tryz.prog 24 #[v, .string (toB F)] w (FindPost w (Sc.find l F)) := by
  obtain ⟨a, c, rfl, _, _, _⟩ := h.len
  obtain ⟨R, hR⟩ : ∃ R, R = Sc.find l F := ⟨_, rfl⟩
  rw [← hR]
  have HR : Hid (R = Sc.find (l.drop 0) F) := Lib.hid hR
  have HF := Lib.hid h
  obtain ⟨n, hn⟩ : ∃ n, n = l.length := ⟨_, rfl⟩
  rw [← hn] at HF hl ⊢
  have Hn := Lib.hid hn.symm
  have hns : n ≤ 9223372036854775807 := by omega
  have hbd := rty_build0
  clear hR h hn
  go_enter Tryz.func24, Tryz.ntmps24
  go_upto_region 1 with (first
    | (refine wpList_alloc_lay rfl 62 rfl zTy zeroRTy ?_; (intro w1 g1 hg1 hB1 hb1)))
  have HB1 := Lib.hid hB1; have Hb1 := Lib.hid hb1; have Hg1 := Lib.hid hg1
  clear hB1 hb1 hg1
  go_wp2_with fail
  go_loopw [10] (fun iv wr => ∃ k : Nat, k ≤ n ∧ iv = .int .i64 k ∧ Hid (R = Sc.find (l.drop k) F) ∧ Hid (Blk wr g1 zTy ∧ Below w.heap.size w wr)) (fun iv _ => n - (intOf iv).toNat)
  case atStart => exact ⟨0, Nat.zero_le _, rfl, HR, Lib.hid ⟨HB1.out, Hb1.out⟩⟩
  case round =>
    obtain ⟨k, hkn, rfl, HR, HX⟩ := hrel
    by_cases hlt : k < n
    · have hk : k < l.length := by rw [Hn.out]; exact hlt
      obtain ⟨d0, o0, hd0, hidx, hcell⟩ := FlatV.at (n := n) (cap := c) (a := a) (HF.out.mono (below_le HX.out.2)) tyC_len (by decide) (i := k) hk Tryz.underlying55 sizeRTys
      have hr : wr.rangeAt d0 o0 (tyC l[k]) := hcell
      have HR2 : Hid (R = if l[k].full = F then some l[k] else Sc.find (l.drop (k + 1)) F) := Lib.hid (by
        rw [HR.out, List.drop_eq_getElem_cons hk]
        unfold Sc.find
        rw [List.find?_cons]
        by_cases h : l[k].full = F
        · rw [if_pos h, beq_iff_eq.2 h]
        · rw [if_neg h, beq_eq_false_iff_ne.2 h])
      clear hcell HR
      generalize l[k] = y at *
      clear hk
      have qt := toB_beq y.full F
      go_upto_region 4 with (first
        | (refine wpList_load_seg rfl 62 _ rfl _ _ rfl _ _ hr Tryz.underlying62 rfl infoRTy ?_)
        | (refine wpList_alloc_lay rfl 62 rfl zTy zeroRTy ?_; (intro w9 g10 hg9 hB9 hb9; clear hr))
        | (refine wpList_store_all rfl 62 _ _ rfl g10 (tyC y) rfl rfl zTy hB9 infoRTy rfl (one_tyC _) ?_; (intro w10 hB10 hgr10; have hb10 := Below.grown hb9 hgr10 hb9.size (fun _ e => by cases e; exact hg9); clear hb9 hgr10 hB9)))
      have y0 : w10.cell? ⟨g10, 0, none⟩ = some (.string (toB y.full)) := hB10.cell (o := 0) rfl
      have HX10 : Hid (Blk w10 g1 zTy ∧ Below w.heap.size w w10) := Lib.hid ⟨HX.out.1.below hb10 HX.out.1.lt, HX.out.2.trans (hb10.mono HX.out.2.size)⟩
      clear hb10 hg9 hidx hd0
      by_cases h : y.full = F
      · rw [decide_eq_true h] at qt
        have HRe : Hid (R = some y) := Lib.hid (by rw [HR2.out, if_pos h])
        have hW := hB10.whole
        have hBr := HX10.out.1
        clear HR2 h hB10
        go_wp2_with (first
          | (refine wpList_load_seg rfl 62 _ rfl _ _ rfl _ _ hW Tryz.underlying62 rfl infoRTy ?_)
          | (refine wpList_store_all rfl 62 _ _ rfl g1 (tyC y) rfl rfl zTy hBr infoRTy rfl (one_tyC y) ?_; (intro w8 hB8 hgr8)))
        have hb8 := Below.grown HX10.out.2 hgr8 HX10.out.2.size (fun _ e => by cases e; exact Hg1.out)
        rw [HRe.out]
        refine bodyPost_ret (v := .tuple #[.agg (tyC y).toArray, .bool true]) ?_ rfl ⟨rfl, hb8⟩
        exact results_blk2 (p := 4) (u := 5) (ty := 62) rfl _ _ g1 (tyC y) rfl hB8 _ Tryz.underlying62 rfl infoRTy
      · rw [decide_eq_false h] at qt
        have HRe : Hid (R = Sc.find (l.drop (k + 1)) F) := Lib.hid (by rw [HR2.out, if_neg h])
        clear HR2 h hB10
        go_wp2_with fail
        go_roundw
        case rel => exact ⟨k + 1, by omega, by go_num, HRe, HX10⟩
        case measure => simp [intOf]; omega
    · obtain rfl : n = k := by omega
      have HRe : Hid (R = none) := Lib.hid (by
        rw [HR.out, List.drop_of_length_le (by rw [Hn.out]; exact Nat.le_refl _)]; rfl)
      have hBr := HX.out.1
      clear HR hkn hlt
      go_wp2_with (first
        | (refine wpList_store_all rfl 62 _ _ rfl g1 zTy rfl rfl zTy hBr infoRTy rfl (one_tyO none) ?_; (intro w8 hB8 hgr8)))
      have hb8 := Below.grown HX.out.2 hgr8 HX.out.2.size (fun _ e => by cases e; exact Hg1.out)
      rw [HRe.out]
      refine bodyPost_ret (v := .tuple #[.agg zTy.toArray, .bool false]) ?_ rfl ⟨rfl, hb8⟩
      exact results_blk2 (p := 4) (u := 5) (ty := 62) rfl _ _ g1 zTy rfl hB8 _ Tryz.underlying62 rfl infoRTy

end Go.Proofs.YtiofhfcohhfihaaGreatDoor

namespace Go.Proofs.YtiofhfcohhfihaaGreatDoor
open Go.RowKit
set_option linter.unusedVariables false
set_option linter.unusedSimpArgs false

theorem cut_tail (n : Lx.Bs) : (toB n).extract 1 (toB n).size = toB n.tail := by
  apply ByteArray.ext
  rw [ByteArray.data_extract]
  show n.toArray.extract 1 _ = n.tail.toArray
  rw [List.extract_toArray, List.extract_eq_take_drop, toB_size]
  congr 1
  rw [List.drop_one, List.take_of_length_le (by rw [List.length_tail]; exact Nat.le_refl _)]
theorem byte_toB (s : Lx.Bs) (i : Nat) (h : i < (toB s).size) : (toB s)[i] = s[i]'(by rw [toB_size] at h; exact h) := by
  have h1 := Lib.data_getElem? (toB s) i h
  rw [toB_list, List.getElem?_eq_getElem (by rw [toB_size] at h; exact h)] at h1
  exact (Option.some.inj h1).symm
def rlookAt (k : Nat) : Prop := ∀ (v : Value) (l : List Sc.Ty) (s n : Lx.Bs) (w : World), s.length < k → l.length ≤ 40 → FlatV tyC (frag w) v l → s.length ≤ 40000000 → n.length ≤ 40000000 →
  Calls Tryz.prog 22 #[v, .string (toB s), .string (toB n)] w (FindPost w (Sc.Look l s n))

set_option maxHeartbeats 8000000 in
set_option maxRecDepth 100000 in
theorem rlook_succ (k : Nat) (ih : rlookAt k) : rlookAt (k + 1) := by
  intro v l s n w hk hl h hs hn
  obtain ⟨a, c, rfl, _, _, _⟩ := h.len
  have HF := Lib.hid (fun F w1 (hb : Below w.heap.size w w1) => rfind09_any (.slice a l.length c) l F w1 hl (h.mono (below_le hb)))
  have HJ := Lib.hid (fun w1 => join_any s n w1 hs hn)
  have Hih := Lib.hid (fun w1 (hb : Below w.heap.size w w1) (hlt : (Sc.outer s).length < k) (hle : (Sc.outer s).length ≤ 40000000) => ih (.slice a l.length c) l (Sc.outer s) n w1 hlt hl (h.mono (below_le hb)) hle hn)
  have Hk := Lib.hid hk; have Hs := Lib.hid hs
  have hszn := toB_size n
  have hszs := toB_size s
  generalize l.length = m at *
  clear ih h hl hk
  unfold FindPost at HF Hih
  by_cases hp : n.head? = some 46
  · have e : Sc.Look l s n = Sc.find l n.tail := by unfold Sc.Look; rw [if_pos hp]
    rw [e]
    have h0 : 0 < n.length := by
      cases n with
      | nil => cases hp
      | cons x r => simp
    have hz : 0 < (toB n).size := by rw [hszn]; exact h0
    have hb : (toB n)[0] = 46 := by
      rw [byte_toB]
      cases n with
      | nil => cases hp
      | cons x r => exact Option.some.inj hp
    have q : (((toB n)[0].toNat : Int) == 46) = true := by rw [hb]; rfl
    have q1 : decide ((0 : Int) < ((toB n).size : Int)) = true := decide_eq_true (by omega)
    have hcut := cut_tail n
    have HFn := Lib.hid (fun w1 (hb : Below w.heap.size w w1) => HF.out n.tail w1 hb)
    have hn9 : (toB n).size ≤ 9223372036854775807 := by omega
    generalize n.tail = nt at *
    generalize Sc.find l nt = r at *
    have Hone := Lib.hid (one_tyO r); have Hlen5 := Lib.hid (tyO_len r)
    clear HF HJ Hih e hp hb h0 hn hs
    clear hszn hszs
    go_enter Tryz.func22, Tryz.ntmps22
    go_upto_region 1 with (first
      | (refine wpList_alloc_lay rfl 62 rfl zTy zeroRTy ?_; (intro w1 g1 hg1 hB1 hb1)))
    have HB1 := Lib.hid hB1; have Hb1 := Lib.hid hb1; have Hg1 := Lib.hid hg1
    clear hB1 hb1 hg1
    go_upto_region 2 with fail
    go_wp2_with (first
      | (go_at_call 24; (with_reducible refine (HFn.out _ Hb1.out).mono ?_); rintro e w3 ⟨rfl, hb3⟩; have HB3 := HB1.out.below hb3 HB1.out.lt; have Hb3 := Lib.hid (Hb1.out.trans (hb3.mono Hb1.out.size)); clear hb3)
      | (refine wpList_store_all rfl 62 _ _ rfl g1 (tyO r) rfl rfl zTy HB3 ?_ ?_ ?_ ?_; (· rw [Hlen5.out]; exact infoRTy); (· exact Hlen5.out); (· exact Hone.out); (intro w8 hB8 hgr8)))
    have hb8 := Below.grown Hb3.out hgr8 Hb3.out.size (fun _ e => by cases e; exact Hg1.out)
    refine bodyPost_ret (v := .tuple #[.agg (tyO r).toArray, .bool r.isSome]) ?_ rfl ⟨rfl, hb8⟩
    exact results_blk2 (p := 6) (u := 7) (ty := 62) rfl _ _ g1 (tyO r) rfl hB8 _ Tryz.underlying62 rfl (by rw [Hlen5.out]; exact infoRTy)
  · have e : Sc.Look l s n = match Sc.find l (Sc.within s n) with | some t => some t | none => if s = [] then none else Sc.Look l (Sc.outer s) n := by
      unfold Sc.Look
      rw [if_neg hp, if_neg hp, Sc.look]
      cases Sc.find l (Sc.within s n) with
      | some t => rfl
      | none =>
        dsimp only
        by_cases hse : s = []
        · rw [if_pos hse, if_pos hse]
        · rw [if_neg hse, if_neg hse]
          have := Sc.outer_lt hse
          exact Sc.look_more l n _ _ _ (by omega) (by omega)
    obtain ⟨R, hR⟩ : ∃ R, R = Sc.Look l s n := ⟨_, rfl⟩
    rw [← hR]
    rw [e] at hR
    have HR := Lib.hid hR
    have HFn := Lib.hid (fun w1 (hb : Below w.heap.size w w1) => HF.out (Sc.within s n) w1 hb)
    have hbd := rty_build0
    clear hR e HF
    generalize Sc.within s n = F at *
    generalize Sc.find l F = r at *
    have hsn : (toB s).size ≤ 9223372036854775807 := by omega
    by_cases hne : n = []
    · have q1 : decide ((0 : Int) < ((toB n).size : Int)) = false := decide_eq_false (by rw [hszn, hne]; simp)
      have q2 : (toB n).size = 0 := by rw [hszn, hne]; rfl
      clear hne hp hn hs
      cases r with
      | some t =>
        have HRe : Hid (R = some t) := HR
        clear HR Hih
        clear hszn hszs
        go_enter Tryz.func22, Tryz.ntmps22
        go_upto_region 1 with (first
          | (refine wpList_alloc_lay rfl 62 rfl zTy zeroRTy ?_; (intro w1 g1 hg1 hB1 hb1)))
        have HB1 := Lib.hid hB1; have Hb1 := Lib.hid hb1; have Hg1 := Lib.hid hg1
        clear hB1 hb1 hg1
        go_upto_region 3 with fail
        go_wp2_with (first
          | (go_at_call 57; (with_reducible refine (HJ.out _).mono ?_); rintro e w3 ⟨rfl, rfl⟩)
          | (go_at_call 24; (with_reducible refine (HFn.out _ Hb1.out).mono ?_); rintro e w4 ⟨rfl, hb4⟩; have HB4 := Lib.hid (HB1.out.below hb4 HB1.out.lt); have Hb4 := Lib.hid (Hb1.out.trans (hb4.mono Hb1.out.size)); clear hb4)
          | (refine wpList_alloc_lay rfl 62 rfl zTy zeroRTy ?_; (intro w5 g5 hg5 hB5 hb5; have HB45 := HB4.out.below hb5 HB4.out.lt; have hne5 : g5 ≠ g1 := fun e => by have := HB4.out.lt; omega))
          | (refine wpList_store_all rfl 62 _ _ rfl g5 (tyC t) rfl rfl zTy hB5 infoRTy rfl (one_tyC t) ?_; (intro w6 hB6 hgr6; have HB46 := HB45.grown hgr6 (fun e => hne5 (Option.some.inj e).symm); have hW6 := hB6.whole; have hb6 := Below.grown hb5 hgr6 hb5.size (fun _ e => by cases e; exact hg5); clear hB5 hb5 hgr6 HB45))
          | (refine wpList_load_seg rfl 62 _ rfl _ _ rfl _ _ hW6 Tryz.underlying62 rfl infoRTy ?_)
          | (refine wpList_store_all rfl 62 _ _ rfl g1 (tyC t) rfl rfl zTy HB46 infoRTy rfl (one_tyC t) ?_; (intro w8 hB8 hgr8)))
        have hb8 := Below.grown (Hb4.out.trans (hb6.mono Hb4.out.size)) hgr8 (Nat.le_trans Hb4.out.size hb6.size) (fun _ e => by cases e; exact Hg1.out)
        rw [HRe.out]
        refine bodyPost_ret (v := .tuple #[.agg (tyC t).toArray, .bool true]) ?_ rfl ⟨rfl, hb8⟩
        exact results_blk2 (p := 6) (u := 7) (ty := 62) rfl _ _ g1 (tyC t) rfl hB8 _ Tryz.underlying62 rfl infoRTy
      | none =>
        have HRe : Hid (R = if s = [] then none else Sc.Look l (Sc.outer s) n) := HR
        clear HR
        by_cases hse : s = []
        · have HRn : Hid (R = none) := Lib.hid (by rw [HRe.out, if_pos hse])
          have q0 : (((toB s).size : Int) == 0) = true := by rw [hszs, hse]; rfl
          clear HRe Hih hse
          clear hszn hszs
          go_enter Tryz.func22, Tryz.ntmps22
          go_upto_region 1 with (first
            | (refine wpList_alloc_lay rfl 62 rfl zTy zeroRTy ?_; (intro w1 g1 hg1 hB1 hb1)))
          have HB1 := Lib.hid hB1; have Hb1 := Lib.hid hb1; have Hg1 := Lib.hid hg1
          clear hB1 hb1 hg1
          go_upto_region 3 with fail
          go_wp2_with (first
            | (go_at_call 57; (with_reducible refine (HJ.out _).mono ?_); rintro e w3 ⟨rfl, rfl⟩)
            | (go_at_call 24; (with_reducible refine (HFn.out _ Hb1.out).mono ?_); rintro e w4 ⟨rfl, hb4⟩; have HB4 := Lib.hid (HB1.out.below hb4 HB1.out.lt); have Hb4 := Lib.hid (Hb1.out.trans (hb4.mono Hb1.out.size)); clear hb4)
            | (refine wpList_alloc_lay rfl 62 rfl zTy zeroRTy ?_; (intro w5 g5 hg5 hB5 hb5; have HB45 := HB4.out.below hb5 HB4.out.lt; have hne5 : g5 ≠ g1 := fun e => by have := HB4.out.lt; omega))
            | (refine wpList_store_all rfl 62 _ _ rfl g5 zTy rfl rfl zTy hB5 infoRTy rfl (one_tyO none) ?_; (intro w6 hB6 hgr6; have HB46 := HB45.grown hgr6 (fun e => hne5 (Option.some.inj e).symm); have hb6 := Below.grown hb5 hgr6 hb5.size (fun _ e => by cases e; exact hg5); clear hB5 hb5 hgr6 HB45 hB6))
            | (refine wpList_store_all rfl 62 _ _ rfl g1 zTy rfl rfl zTy HB46 infoRTy rfl (one_tyO none) ?_; (intro w8 hB8 hgr8)))
          have hb8 := Below.grown (Hb4.out.trans (hb6.mono Hb4.out.size)) hgr8 (Nat.le_trans Hb4.out.size hb6.size) (fun _ e => by cases e; exact Hg1.out)
          rw [HRn.out]
          refine bodyPost_ret (v := .tuple #[.agg zTy.toArray, .bool false]) ?_ rfl ⟨rfl, hb8⟩
          exact results_blk2 (p := 6) (u := 7) (ty := 62) rfl _ _ g1 zTy rfl hB8 _ Tryz.underlying62 rfl infoRTy
        · have HRo : Hid (R = Sc.Look l (Sc.outer s) n) := Lib.hid (by rw [HRe.out, if_neg hse])
          have hspos : 0 < s.length := List.length_pos_iff.2 hse
          have q0 : (((toB s).size : Int) == 0) = false := by rw [hszs, beq_eq_false_iff_ne]; omega
          have hol := Sc.outer_lt hse
          have Hcut := Lib.hid (outer_cut s)
          have HPs : Hid (∀ i (h : i < (toB s).size), Sc.lastP s (i + 1) = if (((toB s)[i].toNat : Nat) : Int) = 46 then i else Sc.lastP s i) := Lib.hid (fun i h => by
            rw [Sc.lastP, byte_toB, List.getElem?_eq_getElem (by rw [hszs] at h; exact h)]
            by_cases hx : s[i]'(by rw [hszs] at h; exact h) = 46
            · rw [if_pos (by rw [hx]), if_pos (by rw [hx]; rfl)]
            · rw [if_neg (fun e => hx (Option.some.inj e)), if_neg (fun e => hx (UInt8.toNat_inj.1 (show _ = 46 by omega)))])
          have HPle := Lib.hid (fun i => Sc.lastP_le s i)
          have Hdot : Hid (Sc.lastDot s = Sc.lastP s (toB s).size) := Lib.hid (by unfold Sc.lastDot; rw [hszs])
          have Holt : Hid ((Sc.outer s).length < k ∧ (Sc.outer s).length ≤ 40000000) := Lib.hid (by have := Hk.out; have := Hs.out; omega)
          clear HRe hse hol
          clear hszn hszs
          go_enter Tryz.func22, Tryz.ntmps22
          go_upto_region 1 with (first
            | (refine wpList_alloc_lay rfl 62 rfl zTy zeroRTy ?_; (intro w1 g1 hg1 hB1 hb1)))
          have HB1 := Lib.hid hB1; have Hb1 := Lib.hid hb1; have Hg1 := Lib.hid hg1
          clear hB1 hb1 hg1
          go_upto_region 3 with fail
          go_wp2_with (first
            | (go_at_call 57; (with_reducible refine (HJ.out _).mono ?_); rintro e w3 ⟨rfl, rfl⟩)
            | (go_at_call 24; (with_reducible refine (HFn.out _ Hb1.out).mono ?_); rintro e w4 ⟨rfl, hb4⟩; have HB4 := Lib.hid (HB1.out.below hb4 HB1.out.lt); have Hb4 := Lib.hid (Hb1.out.trans (hb4.mono Hb1.out.size)); clear hb4)
            | (refine wpList_alloc_lay rfl 62 rfl zTy zeroRTy ?_; (intro w5 g5 hg5 hB5 hb5; have HB45 := HB4.out.below hb5 HB4.out.lt; have hne5 : g5 ≠ g1 := fun e => by have := HB4.out.lt; omega))
            | (refine wpList_store_all rfl 62 _ _ rfl g5 zTy rfl rfl zTy hB5 infoRTy rfl (one_tyO none) ?_; (intro w6 hB6 hgr6; have HB46 := HB45.grown hgr6 (fun e => hne5 (Option.some.inj e).symm); have hb6 := Below.grown hb5 hgr6 hb5.size (fun _ e => by cases e; exact hg5); clear hB5 hb5 hgr6 HB45 hB6)))
          have HB6 := Lib.hid HB46
          have Hb6 : Hid (Below w.heap.size w w6) := Lib.hid (Hb4.out.trans (hb6.mono Hb4.out.size))
          clear HB46 hb6 hne5 hg5
          go_loopw [10, 11] (fun ev iv wr => ∃ i : Nat, i ≤ (toB s).size ∧ iv = .int .i64 i ∧ ev = .int .i64 (Sc.lastP s i : Nat) ∧ wr = w6) (fun _ iv _ => (toB s).size - (intOf iv).toNat)
          case atStart => exact ⟨0, Nat.zero_le _, rfl, rfl, rfl⟩
          case round =>
            obtain ⟨i, hi, rfl, rfl, rfl⟩ := hrel
            by_cases hlt : i < (toB s).size
            · have hP := HPs.out i hlt
              by_cases hx : (((toB s)[i].toNat : Nat) : Int) = 46
              · have qx : ((((toB s)[i].toNat : Nat) : Int) == 46) = true := beq_iff_eq.2 hx
                rw [if_pos hx] at hP
                have HP := Lib.hid hP
                clear hP hx
                go_wp2_with fail
                go_roundw
                case rel => exact ⟨i + 1, by omega, by go_num, by rw [HP.out], by first | rfl | trivial⟩
                case measure => simp [intOf]; omega
              · have qx : ((((toB s)[i].toNat : Nat) : Int) == 46) = false := beq_eq_false_iff_ne.2 hx
                rw [if_neg hx] at hP
                have HP := Lib.hid hP
                clear hP hx
                go_wp2_with fail
                go_roundw
                case rel => exact ⟨i + 1, by omega, by go_num, by rw [HP.out], by first | rfl | trivial⟩
                case measure => simp [intOf]; omega
            · obtain rfl : i = (toB s).size := by omega
              have hcut := Hcut.out
              rw [Hdot.out] at hcut
              have hple := HPle.out (toB s).size
              have HC := Lib.hid (Hih.out wr Hb6.out Holt.out.1 Holt.out.2)
              have HBr := HB6.out
              generalize Sc.lastP s (toB s).size = lp at *
              generalize Sc.outer s = so at *
              generalize Sc.Look l so n = r2 at *
              have Hone := Lib.hid (one_tyO r2); have Hlen5 := Lib.hid (tyO_len r2)
              clear Hih HPs HPle Hdot HFn HJ
              go_wp2_with (first
                | (go_at_call 22; (with_reducible refine HC.out.mono ?_); rintro e w7 ⟨rfl, hb7⟩; have HB7 := HBr.below hb7 HBr.lt; have Hb7 := Lib.hid (Hb6.out.trans (hb7.mono Hb6.out.size)); clear hb7)
                | (refine wpList_store_all rfl 62 _ _ rfl g1 (tyO r2) rfl rfl zTy HB7 ?_ ?_ ?_ ?_; (· rw [Hlen5.out]; exact infoRTy); (· exact Hlen5.out); (· exact Hone.out); (intro w8 hB8 hgr8)))
              have hb8 := Below.grown Hb7.out hgr8 Hb7.out.size (fun _ e => by cases e; exact Hg1.out)
              rw [HRo.out]
              refine bodyPost_ret (v := .tuple #[.agg (tyO r2).toArray, .bool r2.isSome]) ?_ rfl ⟨rfl, hb8⟩
              exact results_blk2 (p := 6) (u := 7) (ty := 62) rfl _ _ g1 (tyO r2) rfl hB8 _ Tryz.underlying62 rfl (by rw [Hlen5.out]; exact infoRTy)
    · have h0 : 0 < n.length := List.length_pos_iff.2 hne
      have hz : 0 < (toB n).size := by rw [hszn]; exact h0
      have q1 : decide ((0 : Int) < ((toB n).size : Int)) = true := decide_eq_true (by omega)
      have q : (((toB n)[0].toNat : Int) == 46) = false := by
        rw [beq_eq_false_iff_ne, byte_toB]
        intro e
        apply hp
        have h1 : n[0] = 46 := UInt8.toNat_inj.1 (show n[0].toNat = 46 by omega)
        rw [List.head?_eq_getElem?, List.getElem?_eq_getElem h0]
        exact congrArg some h1
      clear hne hp h0 hn hs
      cases r with
      | some t =>
        have HRe : Hid (R = some t) := HR
        clear HR Hih
        clear hszn hszs
        go_enter Tryz.func22, Tryz.ntmps22
        go_upto_region 1 with (first
          | (refine wpList_alloc_lay rfl 62 rfl zTy zeroRTy ?_; (intro w1 g1 hg1 hB1 hb1)))
        have HB1 := Lib.hid hB1; have Hb1 := Lib.hid hb1; have Hg1 := Lib.hid hg1
        clear hB1 hb1 hg1
        go_upto_region 3 with fail
        go_wp2_with (first
          | (go_at_call 57; (with_reducible refine (HJ.out _).mono ?_); rintro e w3 ⟨rfl, rfl⟩)
          | (go_at_call 24; (with_reducible refine (HFn.out _ Hb1.out).mono ?_); rintro e w4 ⟨rfl, hb4⟩; have HB4 := Lib.hid (HB1.out.below hb4 HB1.out.lt); have Hb4 := Lib.hid (Hb1.out.trans (hb4.mono Hb1.out.size)); clear hb4)
          | (refine wpList_alloc_lay rfl 62 rfl zTy zeroRTy ?_; (intro w5 g5 hg5 hB5 hb5; have HB45 := HB4.out.below hb5 HB4.out.lt; have hne5 : g5 ≠ g1 := fun e => by have := HB4.out.lt; omega))
          | (refine wpList_store_all rfl 62 _ _ rfl g5 (tyC t) rfl rfl zTy hB5 infoRTy rfl (one_tyC t) ?_; (intro w6 hB6 hgr6; have HB46 := HB45.grown hgr6 (fun e => hne5 (Option.some.inj e).symm); have hW6 := hB6.whole; have hb6 := Below.grown hb5 hgr6 hb5.size (fun _ e => by cases e; exact hg5); clear hB5 hb5 hgr6 HB45))
          | (refine wpList_load_seg rfl 62 _ rfl _ _ rfl _ _ hW6 Tryz.underlying62 rfl infoRTy ?_)
          | (refine wpList_store_all rfl 62 _ _ rfl g1 (tyC t) rfl rfl zTy HB46 infoRTy rfl (one_tyC t) ?_; (intro w8 hB8 hgr8)))
        have hb8 := Below.grown (Hb4.out.trans (hb6.mono Hb4.out.size)) hgr8 (Nat.le_trans Hb4.out.size hb6.size) (fun _ e => by cases e; exact Hg1.out)
        rw [HRe.out]
        refine bodyPost_ret (v := .tuple #[.agg (tyC t).toArray, .bool true]) ?_ rfl ⟨rfl, hb8⟩
        exact results_blk2 (p := 6) (u := 7) (ty := 62) rfl _ _ g1 (tyC t) rfl hB8 _ Tryz.underlying62 rfl infoRTy
      | none =>
        have HRe : Hid (R = if s = [] then none else Sc.Look l (Sc.outer s) n) := HR
        clear HR
        by_cases hse : s = []
        · have HRn : Hid (R = none) := Lib.hid (by rw [HRe.out, if_pos hse])
          have q0 : (((toB s).size : Int) == 0) = true := by rw [hszs, hse]; rfl
          clear HRe Hih hse
          clear hszn hszs
          go_enter Tryz.func22, Tryz.ntmps22
          go_upto_region 1 with (first
            | (refine wpList_alloc_lay rfl 62 rfl zTy zeroRTy ?_; (intro w1 g1 hg1 hB1 hb1)))
          have HB1 := Lib.hid hB1; have Hb1 := Lib.hid hb1; have Hg1 := Lib.hid hg1
          clear hB1 hb1 hg1
          go_upto_region 3 with fail
          go_wp2_with (first
            | (go_at_call 57; (with_reducible refine (HJ.out _).mono ?_); rintro e w3 ⟨rfl, rfl⟩)
            | (go_at_call 24; (with_reducible refine (HFn.out _ Hb1.out).mono ?_); rintro e w4 ⟨rfl, hb4⟩; have HB4 := Lib.hid (HB1.out.below hb4 HB1.out.lt); have Hb4 := Lib.hid (Hb1.out.trans (hb4.mono Hb1.out.size)); clear hb4)
            | (refine wpList_alloc_lay rfl 62 rfl zTy zeroRTy ?_; (intro w5 g5 hg5 hB5 hb5; have HB45 := HB4.out.below hb5 HB4.out.lt; have hne5 : g5 ≠ g1 := fun e => by have := HB4.out.lt; omega))
            | (refine wpList_store_all rfl 62 _ _ rfl g5 zTy rfl rfl zTy hB5 infoRTy rfl (one_tyO none) ?_; (intro w6 hB6 hgr6; have HB46 := HB45.grown hgr6 (fun e => hne5 (Option.some.inj e).symm); have hb6 := Below.grown hb5 hgr6 hb5.size (fun _ e => by cases e; exact hg5); clear hB5 hb5 hgr6 HB45 hB6))
            | (refine wpList_store_all rfl 62 _ _ rfl g1 zTy rfl rfl zTy HB46 infoRTy rfl (one_tyO none) ?_; (intro w8 hB8 hgr8)))
          have hb8 := Below.grown (Hb4.out.trans (hb6.mono Hb4.out.size)) hgr8 (Nat.le_trans Hb4.out.size hb6.size) (fun _ e => by cases e; exact Hg1.out)
          rw [HRn.out]
          refine bodyPost_ret (v := .tuple #[.agg zTy.toArray, .bool false]) ?_ rfl ⟨rfl, hb8⟩
          exact results_blk2 (p := 6) (u := 7) (ty := 62) rfl _ _ g1 zTy rfl hB8 _ Tryz.underlying62 rfl infoRTy
        · have HRo : Hid (R = Sc.Look l (Sc.outer s) n) := Lib.hid (by rw [HRe.out, if_neg hse])
          have hspos : 0 < s.length := List.length_pos_iff.2 hse
          have q0 : (((toB s).size : Int) == 0) = false := by rw [hszs, beq_eq_false_iff_ne]; omega
          have hol := Sc.outer_lt hse
          have Hcut := Lib.hid (outer_cut s)
          have HPs : Hid (∀ i (h : i < (toB s).size), Sc.lastP s (i + 1) = if (((toB s)[i].toNat : Nat) : Int) = 46 then i else Sc.lastP s i) := Lib.hid (fun i h => by
            rw [Sc.lastP, byte_toB, List.getElem?_eq_getElem (by rw [hszs] at h; exact h)]
            by_cases hx : s[i]'(by rw [hszs] at h; exact h) = 46
            · rw [if_pos (by rw [hx]), if_pos (by rw [hx]; rfl)]
            · rw [if_neg (fun e => hx (Option.some.inj e)), if_neg (fun e => hx (UInt8.toNat_inj.1 (show _ = 46 by omega)))])
          have HPle := Lib.hid (fun i => Sc.lastP_le s i)
          have Hdot : Hid (Sc.lastDot s = Sc.lastP s (toB s).size) := Lib.hid (by unfold Sc.lastDot; rw [hszs])
          have Holt : Hid ((Sc.outer s).length < k ∧ (Sc.outer s).length ≤ 40000000) := Lib.hid (by have := Hk.out; have := Hs.out; omega)
          clear HRe hse hol
          clear hszn hszs
          go_enter Tryz.func22, Tryz.ntmps22
          go_upto_region 1 with (first
            | (refine wpList_alloc_lay rfl 62 rfl zTy zeroRTy ?_; (intro w1 g1 hg1 hB1 hb1)))
          have HB1 := Lib.hid hB1; have Hb1 := Lib.hid hb1; have Hg1 := Lib.hid hg1
          clear hB1 hb1 hg1
          go_upto_region 3 with fail
          go_wp2_with (first
            | (go_at_call 57; (with_reducible refine (HJ.out _).mono ?_); rintro e w3 ⟨rfl, rfl⟩)
            | (go_at_call 24; (with_reducible refine (HFn.out _ Hb1.out).mono ?_); rintro e w4 ⟨rfl, hb4⟩; have HB4 := Lib.hid (HB1.out.below hb4 HB1.out.lt); have Hb4 := Lib.hid (Hb1.out.trans (hb4.mono Hb1.out.size)); clear hb4)
            | (refine wpList_alloc_lay rfl 62 rfl zTy zeroRTy ?_; (intro w5 g5 hg5 hB5 hb5; have HB45 := HB4.out.below hb5 HB4.out.lt; have hne5 : g5 ≠ g1 := fun e => by have := HB4.out.lt; omega))
            | (refine wpList_store_all rfl 62 _ _ rfl g5 zTy rfl rfl zTy hB5 infoRTy rfl (one_tyO none) ?_; (intro w6 hB6 hgr6; have HB46 := HB45.grown hgr6 (fun e => hne5 (Option.some.inj e).symm); have hb6 := Below.grown hb5 hgr6 hb5.size (fun _ e => by cases e; exact hg5); clear hB5 hb5 hgr6 HB45 hB6)))
          have HB6 := Lib.hid HB46
          have Hb6 : Hid (Below w.heap.size w w6) := Lib.hid (Hb4.out.trans (hb6.mono Hb4.out.size))
          clear HB46 hb6 hne5 hg5
          go_loopw [10, 11] (fun ev iv wr => ∃ i : Nat, i ≤ (toB s).size ∧ iv = .int .i64 i ∧ ev = .int .i64 (Sc.lastP s i : Nat) ∧ wr = w6) (fun _ iv _ => (toB s).size - (intOf iv).toNat)
          case atStart => exact ⟨0, Nat.zero_le _, rfl, rfl, rfl⟩
          case round =>
            obtain ⟨i, hi, rfl, rfl, rfl⟩ := hrel
            by_cases hlt : i < (toB s).size
            · have hP := HPs.out i hlt
              by_cases hx : (((toB s)[i].toNat : Nat) : Int) = 46
              · have qx : ((((toB s)[i].toNat : Nat) : Int) == 46) = true := beq_iff_eq.2 hx
                rw [if_pos hx] at hP
                have HP := Lib.hid hP
                clear hP hx
                go_wp2_with fail
                go_roundw
                case rel => exact ⟨i + 1, by omega, by go_num, by rw [HP.out], by first | rfl | trivial⟩
                case measure => simp [intOf]; omega
              · have qx : ((((toB s)[i].toNat : Nat) : Int) == 46) = false := beq_eq_false_iff_ne.2 hx
                rw [if_neg hx] at hP
                have HP := Lib.hid hP
                clear hP hx
                go_wp2_with fail
                go_roundw
                case rel => exact ⟨i + 1, by omega, by go_num, by rw [HP.out], by first | rfl | trivial⟩
                case measure => simp [intOf]; omega
            · obtain rfl : i = (toB s).size := by omega
              have hcut := Hcut.out
              rw [Hdot.out] at hcut
              have hple := HPle.out (toB s).size
              have HC := Lib.hid (Hih.out wr Hb6.out Holt.out.1 Holt.out.2)
              have HBr := HB6.out
              generalize Sc.lastP s (toB s).size = lp at *
              generalize Sc.outer s = so at *
              generalize Sc.Look l so n = r2 at *
              have Hone := Lib.hid (one_tyO r2); have Hlen5 := Lib.hid (tyO_len r2)
              clear Hih HPs HPle Hdot HFn HJ
              go_wp2_with (first
                | (go_at_call 22; (with_reducible refine HC.out.mono ?_); rintro e w7 ⟨rfl, hb7⟩; have HB7 := HBr.below hb7 HBr.lt; have Hb7 := Lib.hid (Hb6.out.trans (hb7.mono Hb6.out.size)); clear hb7)
                | (refine wpList_store_all rfl 62 _ _ rfl g1 (tyO r2) rfl rfl zTy HB7 ?_ ?_ ?_ ?_; (· rw [Hlen5.out]; exact infoRTy); (· exact Hlen5.out); (· exact Hone.out); (intro w8 hB8 hgr8)))
              have hb8 := Below.grown Hb7.out hgr8 Hb7.out.size (fun _ e => by cases e; exact Hg1.out)
              rw [HRo.out]
              refine bodyPost_ret (v := .tuple #[.agg (tyO r2).toArray, .bool r2.isSome]) ?_ rfl ⟨rfl, hb8⟩
              exact results_blk2 (p := 6) (u := 7) (ty := 62) rfl _ _ g1 (tyO r2) rfl hB8 _ Tryz.underlying62 rfl (by rw [Hlen5.out]; exact infoRTy)
theorem rlook_at : ∀ k, rlookAt k
  | 0 => fun v l s n w h => absurd h (Nat.not_lt_zero _)
  | k + 1 => rlook_succ k (rlook_at k)
theorem rlook09_any (v : Value) (l : List Sc.Ty) (s n : Lx.Bs) (w : World) (hl : l.length ≤ 40) (h : FlatV tyC (frag w) v l) (hs : s.length ≤ 40000000) (hn : n.length ≤ 40000000) :
    Calls Tryz.prog 22 #[v, .string (toB s), .string (toB n)] w (FindPost w (Sc.Look l s n)) := rlook_at _ v l s n w (Nat.lt_succ_self _) hl h hs hn

end Go.Proofs.YtiofhfcohhfihaaGreatDoor
