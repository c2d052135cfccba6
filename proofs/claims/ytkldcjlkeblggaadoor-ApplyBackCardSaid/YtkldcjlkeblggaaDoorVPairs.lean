/- value.pairs, walked. -/
import Derived.Test.YtkldcjlkeblggaaDoorVRight
namespace Go.Proofs.YtkldcjlkeblggaaDoor
open Go.RowKit
open Val (V cmp right rightF rightL rightP bareV partB lastF lastP)
set_option linter.unusedVariables false

set_option maxRecDepth 100000 in
set_option maxHeartbeats 4000000 in
theorem pairs_at (N : Nat) (ih : RightAt N) (ps : List (V × V)) (pe : List (List Value)) (v : Value) (w : World) (hs : ∀ e ∈ ps, SizeOf.sizeOf e.1 < N ∧ SizeOf.sizeOf e.2 < N) (hv : FlatC 14 (frag w) v pe) (hf : PsR (frag w) ps pe) :
    Calls Tryd.prog 27 #[v] w fun e w' => e = .returned (.bool (decide (0 < ps.length) && rightP none ps)) ∧ Below w.heap.size w w' := by
  obtain ⟨a, cap, rfl, hc1, hc2, _⟩ := hv.len
  have HX := Lib.hid hv; have HF := Lib.hid hf; have HS := Lib.hid hs
  have hlen := hf.len
  unfold maxLen at hc2
  clear hv hf hs
  obtain ⟨n, hn⟩ : ∃ n, n = pe.length := ⟨_, rfl⟩
  rw [← hn] at HX hc1 hlen ⊢
  have Hn := Lib.hid hn.symm; have Hm := Lib.hid hlen.symm; clear hn
  rw [← hlen]
  clear hlen
  have Hfalse : Hid (rightP none ps = false → (decide (0 < n) && rightP none ps) = false) := by
    show _ → _
    intro h; rw [h]; simp
  go_enter Tryd.func27, Tryd.ntmps27
  go_wp2_with fail
  go_loopw [7] (fun i wr => ∃ k : Nat, k ≤ n ∧ i = .int .i64 k ∧ Hid (rightP none ps = rightP (lastP ps k) (ps.drop k)) ∧ Below w.heap.size w wr) (fun i _ => n - (intOf i).toNat)
  case atStart => exact ⟨0, Nat.zero_le _, rfl, (by show _ = _; simp [lastP]), Below.refl _ _⟩
  case round =>
    obtain ⟨k, hk, rfl, Hinv, hbel⟩ := hrel
    have hsz := hbel.size
    by_cases hlt : k < n
    · have hks : k < pe.length := by rw [Hn.out]; exact hlt
      have hkf : k < ps.length := by rw [Hm.out]; exact hlt
      obtain ⟨b0, o0, hb0, hidx, hcell⟩ := FlatC.at (n := n) (cap := cap) (a := a) HX.out (by decide) (i := k) hks Tryd.underlying25 sizePar
      obtain ⟨kc, xc, hx, rk, rx⟩ := HF.out.at hkf hks
      have HIk := Lib.hid (fun (wx : World) (hb : Below wr.heap.size wr wx) => part_at N ih ps[k].1 kc wx (HS.out _ (List.getElem_mem _)).1 (rk.mono ((below_le hbel).trans (below_le hb))))
      have HIx := Lib.hid (fun (wx : World) (hb : Below wr.heap.size wr wx) => part_at N ih ps[k].2 xc wx (HS.out _ (List.getElem_mem _)).2 (rx.mono ((below_le hbel).trans (below_le hb))))
      have Hrk := Lib.hid rk
      obtain ⟨xn, xt, xr, xa1, xn1, xc1, xa2, xn2, xc2, xa3, xn3, xc3, rfl⟩ := rk.shapeK
      obtain ⟨yn, yt, yr, ya1, yn1, yc1, ya2, yn2, yc2, ya3, yn3, yc3, rfl⟩ := rx.shapeK
      rw [hx] at hcell
      have c0 := (hbel.cell (p := ⟨b0, o0 + 0, none⟩) hb0).trans (hcell 0 _ rfl)
      have c1 := (hbel.cell (p := ⟨b0, o0 + 1, none⟩) hb0).trans (hcell 1 _ rfl)
      have c2 := (hbel.cell (p := ⟨b0, o0 + 2, none⟩) hb0).trans (hcell 2 _ rfl)
      have c3 := (hbel.cell (p := ⟨b0, o0 + 3, none⟩) hb0).trans (hcell 3 _ rfl)
      have c4 := (hbel.cell (p := ⟨b0, o0 + 4, none⟩) hb0).trans (hcell 4 _ rfl)
      have c5 := (hbel.cell (p := ⟨b0, o0 + 5, none⟩) hb0).trans (hcell 5 _ rfl)
      have c6 := (hbel.cell (p := ⟨b0, o0 + 6, none⟩) hb0).trans (hcell 6 _ rfl)
      have c7 := (hbel.cell (p := ⟨b0, o0 + 7, none⟩) hb0).trans (hcell 7 _ rfl)
      have c8 := (hbel.cell (p := ⟨b0, o0 + 8, none⟩) hb0).trans (hcell 8 _ rfl)
      have c9 := (hbel.cell (p := ⟨b0, o0 + 9, none⟩) hb0).trans (hcell 9 _ rfl)
      have c10 := (hbel.cell (p := ⟨b0, o0 + 10, none⟩) hb0).trans (hcell 10 _ rfl)
      have c11 := (hbel.cell (p := ⟨b0, o0 + 11, none⟩) hb0).trans (hcell 11 _ rfl)
      have c12 := (hbel.cell (p := ⟨b0, o0 + 12, none⟩) hb0).trans (hcell 12 _ rfl)
      have c13 := (hbel.cell (p := ⟨b0, o0 + 13, none⟩) hb0).trans (hcell 13 _ rfl)
      rw [Nat.add_zero] at c0
      have Hd := Lib.hid (Val.rightP_drop (m := lastP ps k) hkf)
      have Hl := Lib.hid (Val.lastP_succ hkf)
      have hpk : partB ps[k].1 = (decide (1 ≤ ps[k].1.kind ∧ ps[k].1.kind ≤ 3) && right ps[k].1) := rfl
      have hpx : partB ps[k].2 = (decide (1 ≤ ps[k].2.kind ∧ ps[k].2.kind ≤ 3) && right ps[k].2) := rfl
      rw [← hpx] at Hd
      have Hpk := Lib.hid hpk
      clear hcell hx rk rx hpk hpx
      obtain ⟨key, hkey⟩ : ∃ x, x = ps[k].1 := ⟨_, rfl⟩
      rw [← hkey] at HIk Hrk Hd Hl Hpk c0
      have Hkey := Lib.hid hkey; clear hkey
      obtain ⟨xk, hxk⟩ : ∃ x, x = key.kind := ⟨_, rfl⟩
      rw [← hxk] at HIk Hrk Hd Hpk c0
      have Hxk := Lib.hid hxk; clear hxk
      generalize ps[k].2.kind = yk at *
      generalize partB ps[k].2 = rt at *
      obtain ⟨rk, hrk⟩ : ∃ r, r = partB key := ⟨_, rfl⟩
      rw [← hrk] at HIk Hpk
      have Hrk2 := Lib.hid hrk; clear hrk
      have hb1 := Lib.hid (hbel.alloc hsz (.cells #[.int .i64 xk, .int .u64 xn, .string xt, .slice xa1 xn1 xc1, .string xr, .slice xa2 xn2 xc2, .slice xa3 xn3 xc3, .int .i64 yk, .int .u64 yn, .string yt, .slice ya1 yn1 yc1, .string yr, .slice ya2 yn2 yc2, .slice ya3 yn3 yc3] 61))
      have hb2 := Lib.hid ((Below.refl wr.heap.size wr).alloc (Nat.le_refl _) (.cells #[.int .i64 xk, .int .u64 xn, .string xt, .slice xa1 xn1 xc1, .string xr, .slice xa2 xn2 xc2, .slice xa3 xn3 xc3, .int .i64 yk, .int .u64 yn, .string yt, .slice ya1 yn1 yc1, .string yr, .slice ya2 yn2 yc2, .slice ya3 yn3 yc3] 61))
      by_cases t1 : xk = 1 ∨ xk = 2
      · have Hkk : Hid ((decide (xk = 1 ∨ xk = 2) && right key) = rk) := by
          show _ = _
          rw [Hpk.out, decide_eq_true t1, decide_eq_true (show 1 ≤ xk ∧ xk ≤ 3 by omega)]
        rw [Hkk.out] at Hd
        cases rk with
        | false =>
          have hfin : Hid (rightP none ps = false) := by show _ = _; rw [Hinv.out, Hd.out]; simp
          rcases t1 with t1 | t1
          · have e1 : (xk != 1) = false := by simpa using t1
            have T1 := Lib.hid t1; clear t1
            go_wp2_with fail
            refine (HIk.out _ hb2.out).mono ?_
            rintro e w' ⟨rfl, hb⟩
            go_wp2_with fail
            go_ret
            exact ⟨ret_bool (Hfalse.out hfin.out).symm, hb1.out.trans (hb.mono hb1.out.size)⟩
          · have e1 : (xk != 1) = true := by simp; omega
            have e2 : (xk != 2) = false := by simpa using t1
            have T1 := Lib.hid t1; clear t1
            go_wp2_with fail
            refine (HIk.out _ hb2.out).mono ?_
            rintro e w' ⟨rfl, hb⟩
            go_wp2_with fail
            go_ret
            exact ⟨ret_bool (Hfalse.out hfin.out).symm, hb1.out.trans (hb.mono hb1.out.size)⟩
        | true =>
          have he : ((xk != 1) = false) ∨ ((xk != 1) = true ∧ (xk != 2) = false) := by
            rcases t1 with t1 | t1
            · left; simpa using t1
            · right; exact ⟨by simp; omega, by simpa using t1⟩
          clear t1
          have hcont : ∀ (w1 : World), Below (wr.heap.size + 1) (wr.alloc (.cells #[.int .i64 xk, .int .u64 xn, .string xt, .slice xa1 xn1 xc1, .string xr, .slice xa2 xn2 xc2, .slice xa3 xn3 xc3, .int .i64 yk, .int .u64 yn, .string yt, .slice ya1 yn1 yc1, .string yr, .slice ya2 yn2 yc2, .slice ya3 yn3 yc3] 61)) w1 → Hid (Below wr.heap.size wr w1 ∧ (w1.cell? ⟨wr.heap.size, 0, none⟩ = some (.int .i64 xk) ∧ w1.cell? ⟨wr.heap.size, 1, none⟩ = some (.int .u64 xn) ∧ w1.cell? ⟨wr.heap.size, 2, none⟩ = some (.string xt) ∧ w1.cell? ⟨wr.heap.size, 3, none⟩ = some (.slice xa1 xn1 xc1) ∧ w1.cell? ⟨wr.heap.size, 4, none⟩ = some (.string xr) ∧ w1.cell? ⟨wr.heap.size, 5, none⟩ = some (.slice xa2 xn2 xc2) ∧ w1.cell? ⟨wr.heap.size, 6, none⟩ = some (.slice xa3 xn3 xc3) ∧ w1.cell? ⟨wr.heap.size, 7, none⟩ = some (.int .i64 yk) ∧ w1.cell? ⟨wr.heap.size, 8, none⟩ = some (.int .u64 yn) ∧ w1.cell? ⟨wr.heap.size, 9, none⟩ = some (.string yt) ∧ w1.cell? ⟨wr.heap.size, 10, none⟩ = some (.slice ya1 yn1 yc1) ∧ w1.cell? ⟨wr.heap.size, 11, none⟩ = some (.string yr) ∧ w1.cell? ⟨wr.heap.size, 12, none⟩ = some (.slice ya2 yn2 yc2) ∧ w1.cell? ⟨wr.heap.size, 13, none⟩ = some (.slice ya3 yn3 yc3))) := by
            intro w1 hb
            refine ⟨((Below.refl _ _).alloc (Nat.le_refl _) _).trans (hb.mono (by omega)), ?_⟩
            refine ⟨?_, ?_, ?_, ?_, ?_, ?_, ?_, ?_, ?_, ?_, ?_, ?_, ?_, ?_⟩
            all_goals
              rw [hb.cell (by simp)]
              simp
          have Hcont := Lib.hid hcont; clear hcont
          rcases he with e1 | ⟨e1, e2⟩
          all_goals
            go_wp2_with fail
            refine (HIk.out _ hb2.out).mono ?_
            rintro e w1 ⟨rfl, hbk⟩
            have hbk' : Below (wr.heap.size + 1) (wr.alloc (.cells #[.int .i64 xk, .int .u64 xn, .string xt, .slice xa1 xn1 xc1, .string xr, .slice xa2 xn2 xc2, .slice xa3 xn3 xc3, .int .i64 yk, .int .u64 yn, .string yt, .slice ya1 yn1 yc1, .string yr, .slice ya2 yn2 yc2, .slice ya3 yn3 yc3] 61)) w1 := by simpa using hbk
            have Hw1 := Hcont.out w1 hbk'
            have Hbk := Lib.hid hbk'
            obtain ⟨q0, q1, q2, q3, q4, q5, q6, q7, q8, q9, q10, q11, q12, q13⟩ := Hw1.out.2
            clear hbk hbk'
            cases rt with
            | false =>
              have hfin : Hid (rightP none ps = false) := by show _ = _; rw [Hinv.out, Hd.out]; simp
              go_wp2_with fail
              refine (HIx.out _ Hw1.out.1).mono ?_
              rintro e w2 ⟨rfl, hb⟩
              go_wp2_with fail
              go_ret
              exact ⟨ret_bool (Hfalse.out hfin.out).symm, (hbel.trans (Hw1.out.1.mono hsz)).trans (hb.mono (Nat.le_trans hsz Hw1.out.1.size))⟩
            | true =>
              go_wp2_with fail
              refine (HIx.out _ Hw1.out.1).mono ?_
              rintro e w2 ⟨rfl, hb⟩
              have hb02 : Below (wr.heap.size + 1) (wr.alloc (.cells #[.int .i64 xk, .int .u64 xn, .string xt, .slice xa1 xn1 xc1, .string xr, .slice xa2 xn2 xc2, .slice xa3 xn3 xc3, .int .i64 yk, .int .u64 yn, .string yt, .slice ya1 yn1 yc1, .string yr, .slice ya2 yn2 yc2, .slice ya3 yn3 yc3] 61)) w2 := Hbk.out.trans (hb.mono (by have := Hbk.out.size; simpa using this))
              have Hb02 := Lib.hid hb02; clear hb hb02
              have Hw2 := Hcont.out w2 Hb02.out
              clear q0 q1 q2 q3 q4 q5 q6 q7 q8 q9 q10 q11 q12 q13
              obtain ⟨q0, q1, q2, q3, q4, q5, q6, q7, q8, q9, q10, q11, q12, q13⟩ := Hw2.out.2
              have hsz2 := Hw2.out.1.size
              have Hbw2 := Lib.hid (hbel.trans (Hw2.out.1.mono hsz))
              by_cases hk0 : k = 0
              · have g0 : decide ((0 : Int) < (k : Int)) = false := decide_eq_false (by omega)
                have g1 : ¬ ((0 : Int) < (k : Int)) := by omega
                have g2 : decide (0 < k) = false := decide_eq_false (by omega)
                have g3 : ¬ (0 < k) := by omega
                have Hl0 : Hid (lastP ps k = none) := by show _ = _; rw [hk0]; rfl
                clear hk0
                go_wp2_with fail
                go_quiet (fail)
                all_goals
                  go_wp2_with fail
                  go_roundw
                  case rel => exact ⟨k + 1, by omega, by simp, (by show _ = _; rw [Hinv.out, Hd.out, Hl.out, Hl0.out]; simp), Below.drewN Hbw2.out _⟩
                  case measure => simp [intOf]; omega
              · obtain ⟨j, hj⟩ : ∃ j, k = j + 1 := ⟨k - 1, by omega⟩
                have hjs : j < pe.length := by omega
                have hjf : j < ps.length := by omega
                obtain ⟨b1, o1, hb1', hidx1, hcell1⟩ := FlatC.at (n := n) (cap := cap) (a := a) HX.out (by decide) (i := j) hjs Tryd.underlying25 sizePar
                obtain ⟨lc, zc, hz, rl, rz⟩ := HF.out.at hjf hjs
                have Hlst : Hid (lastP ps k = some ps[j].1) := by show _ = _; rw [hj]; exact Val.lastP_succ hjf
                have hjk : (j : Int) = (k : Int) - 1 := by omega
                rw [hjk] at hidx1
                have HC := Lib.hid (fun (wx : World) (hb : Below wr.heap.size wr wx) => compare_any ps[j].1 key lc _ wx (rl.mono ((below_le hbel).trans (below_le hb))) (Hrk.out.mono ((below_le hbel).trans (below_le hb))))
                obtain ⟨pn, pt, pr, pa1, pn1, pc1, pa2, pn2, pc2, pa3, pn3, pc3, rfl⟩ := rl.shapeK
                obtain ⟨zk, zn, zt, zr, za1, zn1, zc1, za2, zn2, zc2, za3, zn3, zc3, rfl⟩ := rz.shape
                rw [hz] at hcell1
                have d0 := (Hbw2.out.cell (p := ⟨b1, o1 + 0, none⟩) hb1').trans (hcell1 0 _ rfl)
                have d1 := (Hbw2.out.cell (p := ⟨b1, o1 + 1, none⟩) hb1').trans (hcell1 1 _ rfl)
                have d2 := (Hbw2.out.cell (p := ⟨b1, o1 + 2, none⟩) hb1').trans (hcell1 2 _ rfl)
                have d3 := (Hbw2.out.cell (p := ⟨b1, o1 + 3, none⟩) hb1').trans (hcell1 3 _ rfl)
                have d4 := (Hbw2.out.cell (p := ⟨b1, o1 + 4, none⟩) hb1').trans (hcell1 4 _ rfl)
                have d5 := (Hbw2.out.cell (p := ⟨b1, o1 + 5, none⟩) hb1').trans (hcell1 5 _ rfl)
                have d6 := (Hbw2.out.cell (p := ⟨b1, o1 + 6, none⟩) hb1').trans (hcell1 6 _ rfl)
                rw [Nat.add_zero] at d0
                have g1 : (0 : Int) < (k : Int) := by omega
                have g2 : decide (0 < k) = true := decide_eq_true (by omega)
                have g4 : 0 < k := by omega
                have g3 : (k : Int) - 1 < (n : Int) := by omega
                have hwr : IntKind.i64.wrap ((k : Int) - 1) = (k : Int) - 1 := IntWalk.i64_in _ (by omega)
                have hb1w : b1 < w2.heap.size := Nat.lt_of_lt_of_le hb1' Hbw2.out.size
                generalize ps[j].1 = last at *
                obtain ⟨pk, hpk⟩ : ∃ x, x = last.kind := ⟨_, rfl⟩
                rw [← hpk] at HC d0
                have Hpk2 := Lib.hid hpk
                clear hcell1 hz rl rz hk0 hj hjk hpk hjs hjf
                have HK : Held w2.heap.size w2 (fun w' => ((w'.cell? ⟨wr.heap.size, 0, none⟩ = some (.int .i64 xk) ∧ w'.cell? ⟨wr.heap.size, 1, none⟩ = some (.int .u64 xn) ∧ w'.cell? ⟨wr.heap.size, 2, none⟩ = some (.string xt) ∧ w'.cell? ⟨wr.heap.size, 3, none⟩ = some (.slice xa1 xn1 xc1) ∧ w'.cell? ⟨wr.heap.size, 4, none⟩ = some (.string xr) ∧ w'.cell? ⟨wr.heap.size, 5, none⟩ = some (.slice xa2 xn2 xc2) ∧ w'.cell? ⟨wr.heap.size, 6, none⟩ = some (.slice xa3 xn3 xc3) ∧ w'.cell? ⟨wr.heap.size, 7, none⟩ = some (.int .i64 yk) ∧ w'.cell? ⟨wr.heap.size, 8, none⟩ = some (.int .u64 yn) ∧ w'.cell? ⟨wr.heap.size, 9, none⟩ = some (.string yt) ∧ w'.cell? ⟨wr.heap.size, 10, none⟩ = some (.slice ya1 yn1 yc1) ∧ w'.cell? ⟨wr.heap.size, 11, none⟩ = some (.string yr) ∧ w'.cell? ⟨wr.heap.size, 12, none⟩ = some (.slice ya2 yn2 yc2) ∧ w'.cell? ⟨wr.heap.size, 13, none⟩ = some (.slice ya3 yn3 yc3)) ∧ (w'.cell? ⟨b1, o1, none⟩ = some (.int .i64 pk) ∧ w'.cell? ⟨b1, o1 + 1, none⟩ = some (.int .u64 pn) ∧ w'.cell? ⟨b1, o1 + 2, none⟩ = some (.string pt) ∧ w'.cell? ⟨b1, o1 + 3, none⟩ = some (.slice pa1 pn1 pc1) ∧ w'.cell? ⟨b1, o1 + 4, none⟩ = some (.string pr) ∧ w'.cell? ⟨b1, o1 + 5, none⟩ = some (.slice pa2 pn2 pc2) ∧ w'.cell? ⟨b1, o1 + 6, none⟩ = some (.slice pa3 pn3 pc3)))) := by
                  refine ⟨Nat.le_refl _, fun w' hb => ⟨⟨?_, ?_, ?_, ?_, ?_, ?_, ?_, ?_, ?_, ?_, ?_, ?_, ?_, ?_⟩, ?_, ?_, ?_, ?_, ?_, ?_, ?_⟩⟩
                  all_goals
                    rw [hb.cell (by first | (show wr.heap.size < w2.heap.size; have := Hb02.out.size; simp at this; omega) | exact hb1w)]
                    assumption
                have HB : ∀ w', (((w'.cell? ⟨wr.heap.size, 0, none⟩ = some (.int .i64 xk) ∧ w'.cell? ⟨wr.heap.size, 1, none⟩ = some (.int .u64 xn) ∧ w'.cell? ⟨wr.heap.size, 2, none⟩ = some (.string xt) ∧ w'.cell? ⟨wr.heap.size, 3, none⟩ = some (.slice xa1 xn1 xc1) ∧ w'.cell? ⟨wr.heap.size, 4, none⟩ = some (.string xr) ∧ w'.cell? ⟨wr.heap.size, 5, none⟩ = some (.slice xa2 xn2 xc2) ∧ w'.cell? ⟨wr.heap.size, 6, none⟩ = some (.slice xa3 xn3 xc3) ∧ w'.cell? ⟨wr.heap.size, 7, none⟩ = some (.int .i64 yk) ∧ w'.cell? ⟨wr.heap.size, 8, none⟩ = some (.int .u64 yn) ∧ w'.cell? ⟨wr.heap.size, 9, none⟩ = some (.string yt) ∧ w'.cell? ⟨wr.heap.size, 10, none⟩ = some (.slice ya1 yn1 yc1) ∧ w'.cell? ⟨wr.heap.size, 11, none⟩ = some (.string yr) ∧ w'.cell? ⟨wr.heap.size, 12, none⟩ = some (.slice ya2 yn2 yc2) ∧ w'.cell? ⟨wr.heap.size, 13, none⟩ = some (.slice ya3 yn3 yc3)) ∧ (w'.cell? ⟨b1, o1, none⟩ = some (.int .i64 pk) ∧ w'.cell? ⟨b1, o1 + 1, none⟩ = some (.int .u64 pn) ∧ w'.cell? ⟨b1, o1 + 2, none⟩ = some (.string pt) ∧ w'.cell? ⟨b1, o1 + 3, none⟩ = some (.slice pa1 pn1 pc1) ∧ w'.cell? ⟨b1, o1 + 4, none⟩ = some (.string pr) ∧ w'.cell? ⟨b1, o1 + 5, none⟩ = some (.slice pa2 pn2 pc2) ∧ w'.cell? ⟨b1, o1 + 6, none⟩ = some (.slice pa3 pn3 pc3))) ∧ Below w2.heap.size w2 w') → Below wr.heap.size wr w' := fun w' h => Hw2.out.1.trans (h.2.mono hsz2)
                have HB := Lib.hid HB; have HK := Lib.hid HK
                by_cases hkk : pk = xk
                · have gk : (pk != xk) = false := by simpa using hkk
                  have Hkk2 := Lib.hid hkk; clear hkk
                  by_cases hc : cmp last key < 0
                  · have gc : decide (cmp last key ≥ 0) = false := by simpa using hc
                    have gc2 : decide (0 ≤ cmp last key) = false := by simpa using hc
                    have Hc := Lib.hid hc; clear hc
                    go_wp2_with fail
                    go_region_held3 (fun w' => ((w'.cell? ⟨wr.heap.size, 0, none⟩ = some (.int .i64 xk) ∧ w'.cell? ⟨wr.heap.size, 1, none⟩ = some (.int .u64 xn) ∧ w'.cell? ⟨wr.heap.size, 2, none⟩ = some (.string xt) ∧ w'.cell? ⟨wr.heap.size, 3, none⟩ = some (.slice xa1 xn1 xc1) ∧ w'.cell? ⟨wr.heap.size, 4, none⟩ = some (.string xr) ∧ w'.cell? ⟨wr.heap.size, 5, none⟩ = some (.slice xa2 xn2 xc2) ∧ w'.cell? ⟨wr.heap.size, 6, none⟩ = some (.slice xa3 xn3 xc3) ∧ w'.cell? ⟨wr.heap.size, 7, none⟩ = some (.int .i64 yk) ∧ w'.cell? ⟨wr.heap.size, 8, none⟩ = some (.int .u64 yn) ∧ w'.cell? ⟨wr.heap.size, 9, none⟩ = some (.string yt) ∧ w'.cell? ⟨wr.heap.size, 10, none⟩ = some (.slice ya1 yn1 yc1) ∧ w'.cell? ⟨wr.heap.size, 11, none⟩ = some (.string yr) ∧ w'.cell? ⟨wr.heap.size, 12, none⟩ = some (.slice ya2 yn2 yc2) ∧ w'.cell? ⟨wr.heap.size, 13, none⟩ = some (.slice ya3 yn3 yc3)) ∧ (w'.cell? ⟨b1, o1, none⟩ = some (.int .i64 pk) ∧ w'.cell? ⟨b1, o1 + 1, none⟩ = some (.int .u64 pn) ∧ w'.cell? ⟨b1, o1 + 2, none⟩ = some (.string pt) ∧ w'.cell? ⟨b1, o1 + 3, none⟩ = some (.slice pa1 pn1 pc1) ∧ w'.cell? ⟨b1, o1 + 4, none⟩ = some (.string pr) ∧ w'.cell? ⟨b1, o1 + 5, none⟩ = some (.slice pa2 pn2 pc2) ∧ w'.cell? ⟨b1, o1 + 6, none⟩ = some (.slice pa3 pn3 pc3))) ∧ Below w2.heap.size w2 w')
                      (first | assumption | exact HK.out.start | exact HK.out.call (by assumption) (by assumption) | exact HK.out.alloc (by assumption) _)
                      (first
                      | (go_at_call 17; refine (HC.out _ (HB.out _ (by assumption))).mono ?_; rintro e w3 ⟨rfl, hb3⟩))
                    all_goals
                      clear hwr
                      go_wp2_with fail
                      go_roundw
                      case rel => exact ⟨k + 1, by omega, by simp, (by show _ = _; rw [Hinv.out, Hd.out, Hl.out, Hlst.out]; simp [Hkk2.out, ← Hpk2.out, Hc.out]), hbel.trans ((HB.out _ (by assumption)).mono hsz)⟩
                      case measure => simp [intOf]; omega
                  · have gc : decide (cmp last key ≥ 0) = true := by simp; omega
                    have gc2 : decide (0 ≤ cmp last key) = true := by simp; omega
                    have Hc := Lib.hid hc; clear hc
                    have hfin : Hid (rightP none ps = false) := by show _ = _; rw [Hinv.out, Hd.out, Hlst.out]; simp [Hc.out]
                    go_wp2_with fail
                    go_region_held3 (fun w' => ((w'.cell? ⟨wr.heap.size, 0, none⟩ = some (.int .i64 xk) ∧ w'.cell? ⟨wr.heap.size, 1, none⟩ = some (.int .u64 xn) ∧ w'.cell? ⟨wr.heap.size, 2, none⟩ = some (.string xt) ∧ w'.cell? ⟨wr.heap.size, 3, none⟩ = some (.slice xa1 xn1 xc1) ∧ w'.cell? ⟨wr.heap.size, 4, none⟩ = some (.string xr) ∧ w'.cell? ⟨wr.heap.size, 5, none⟩ = some (.slice xa2 xn2 xc2) ∧ w'.cell? ⟨wr.heap.size, 6, none⟩ = some (.slice xa3 xn3 xc3) ∧ w'.cell? ⟨wr.heap.size, 7, none⟩ = some (.int .i64 yk) ∧ w'.cell? ⟨wr.heap.size, 8, none⟩ = some (.int .u64 yn) ∧ w'.cell? ⟨wr.heap.size, 9, none⟩ = some (.string yt) ∧ w'.cell? ⟨wr.heap.size, 10, none⟩ = some (.slice ya1 yn1 yc1) ∧ w'.cell? ⟨wr.heap.size, 11, none⟩ = some (.string yr) ∧ w'.cell? ⟨wr.heap.size, 12, none⟩ = some (.slice ya2 yn2 yc2) ∧ w'.cell? ⟨wr.heap.size, 13, none⟩ = some (.slice ya3 yn3 yc3)) ∧ (w'.cell? ⟨b1, o1, none⟩ = some (.int .i64 pk) ∧ w'.cell? ⟨b1, o1 + 1, none⟩ = some (.int .u64 pn) ∧ w'.cell? ⟨b1, o1 + 2, none⟩ = some (.string pt) ∧ w'.cell? ⟨b1, o1 + 3, none⟩ = some (.slice pa1 pn1 pc1) ∧ w'.cell? ⟨b1, o1 + 4, none⟩ = some (.string pr) ∧ w'.cell? ⟨b1, o1 + 5, none⟩ = some (.slice pa2 pn2 pc2) ∧ w'.cell? ⟨b1, o1 + 6, none⟩ = some (.slice pa3 pn3 pc3))) ∧ Below w2.heap.size w2 w')
                      (first | assumption | exact HK.out.start | exact HK.out.call (by assumption) (by assumption) | exact HK.out.alloc (by assumption) _)
                      (first
                      | (go_at_call 17; refine (HC.out _ (HB.out _ (by assumption))).mono ?_; rintro e w3 ⟨rfl, hb3⟩))
                    all_goals
                      clear hwr
                      go_wp2_with fail
                      go_ret
                      exact ⟨ret_bool (Hfalse.out hfin.out).symm, hbel.trans ((HB.out _ (by assumption)).mono hsz)⟩
                · have gk : (pk != xk) = true := by simpa using hkk
                  have Hkk2 := Lib.hid hkk; clear hkk
                  have hfin : Hid (rightP none ps = false) := by show _ = _; rw [Hinv.out, Hd.out, Hlst.out]; simp [← Hpk2.out, Hkk2.out]
                  go_wp2_with fail
                  go_quiet (fail)
                  go_wp2_with fail
                  go_ret
                  exact ⟨ret_bool (Hfalse.out hfin.out).symm, Below.drewN Hbw2.out _⟩
      · have e1 : (xk != 1) = true := by simp; omega
        have e2 : (xk != 2) = true := by simp; omega
        have T1 := Lib.hid t1; clear t1
        have hfin : Hid (rightP none ps = false) := by show _ = _; rw [Hinv.out, Hd.out, decide_eq_false T1.out]; simp
        go_wp2_with fail
        go_ret
        exact ⟨ret_bool (Hfalse.out hfin.out).symm, hb1.out⟩
    · obtain rfl : k = n := by omega
      go_wp2_with fail
      go_ret
      refine ⟨ret_bool ?_, hbel⟩
      rw [Hinv.out, ← Hm.out, List.drop_length, rightP]
      simp

end Go.Proofs.YtkldcjlkeblggaaDoor
