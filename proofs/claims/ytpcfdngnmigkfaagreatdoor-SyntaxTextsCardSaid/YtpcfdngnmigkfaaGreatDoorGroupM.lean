/- The reference redlineref07, walked: what a byte is; is a text a word; a place's line and column. The reference redlineref07, walked: gaps and remarks. The reference redlineref07, walked: a number's text. (printed by gen_lznum.py) -/
import Derived.Test.YtpcfdngnmigkfaaGreatDoorLxSplit2
import Derived.Lib.Hide
set_option linter.unusedVariables false
set_option linter.unusedSimpArgs false
namespace Go.Proofs.YtpcfdngnmigkfaaGreatDoor
open Go.RowKit
set_option maxHeartbeats 1000000 in
theorem rletter_any (b : UInt8) (w : World) : Calls Tryz.prog 31 #[.int .u8 b.toNat] w fun e w' => e = .returned (.bool (Lx.letter b)) ∧ w = w' := by
 rw [letter_i]
 generalize (b.toNat : Int) = n
 by_cases h1 : 97 ≤ n <;> by_cases h2 : n ≤ 122 <;> by_cases h3 : 65 ≤ n <;> by_cases h4 : n ≤ 90 <;> by_cases h5 : n = 95
 all_goals first
  | (exfalso; omega)
  | (first
    | (subst h5
       go_enter Tryz.func31, Tryz.ntmps31
       go_wp2
       go_ret
       exact ⟨rfl, rfl⟩)
    | (have h6 : (n == 95) = false := beq_eq_false_iff_ne.2 h5
       clear h5
       go_enter Tryz.func31, Tryz.ntmps31
       go_wp2
       go_ret
       exact ⟨ret_bool (by simp [h1, h2, h3, h4, h6]), rfl⟩))
set_option maxHeartbeats 1000000 in
theorem rfigure_any (b : UInt8) (w : World) : Calls Tryz.prog 32 #[.int .u8 b.toNat] w fun e w' => e = .returned (.bool (Lx.figure b)) ∧ w = w' := by
 rw [figure_i]
 generalize (b.toNat : Int) = n
 by_cases h1 : 48 ≤ n <;> by_cases h2 : n ≤ 57
 all_goals
  go_enter Tryz.func32, Tryz.ntmps32
  go_wp2
  go_ret
  exact ⟨ret_bool (by simp [h1, h2]), rfl⟩
def dig (b : UInt8) : Nat := if Lx.digit b < 16 then Lx.digit b else 99
theorem dig_i (b : UInt8) : (dig b : Int) = if 48 ≤ (b.toNat : Int) ∧ (b.toNat : Int) ≤ 57 then (b.toNat : Int) - 48 else if 97 ≤ (b.toNat : Int) ∧ (b.toNat : Int) ≤ 102 then (b.toNat : Int) - 97 + 10 else if 65 ≤ (b.toNat : Int) ∧ (b.toNat : Int) ≤ 70 then (b.toNat : Int) - 65 + 10 else 99 := by
 have := all256 (fun b => decide ((dig b : Int) = if 48 ≤ (b.toNat : Int) ∧ (b.toNat : Int) ≤ 57 then (b.toNat : Int) - 48 else if 97 ≤ (b.toNat : Int) ∧ (b.toNat : Int) ≤ 102 then (b.toNat : Int) - 97 + 10 else if 65 ≤ (b.toNat : Int) ∧ (b.toNat : Int) ≤ 70 then (b.toNat : Int) - 65 + 10 else 99)) (by decide +kernel) b
 simpa using this
set_option maxHeartbeats 1000000 in
theorem rdigit_any (b : UInt8) (w : World) : Calls Tryz.prog 56 #[.int .u8 b.toNat] w fun e w' => e = .returned (.int .i64 (dig b : Nat)) ∧ w = w' := by
 have HF := Yq (fun w0 => rfigure_any b w0)
 rw [figure_i] at HF
 rw [dig_i]
 have h0 : 0 ≤ (b.toNat : Int) := by omega
 have h255 : (b.toNat : Int) ≤ 255 := by have := b.toNat_lt; omega
 generalize (b.toNat : Int) = n at *
 by_cases h1 : 48 ≤ n ∧ n ≤ 57
 ·rw [if_pos h1]
  rw [show (decide (48 ≤ n) && decide (n ≤ 57)) = true by simp [h1]] at HF
  have ha := h1.1; have hb := h1.2
  clear h1
  go_enter Tryz.func56, Tryz.ntmps56
  go_wp2_with (go_at_call 32; (with_reducible refine (HF.out _).mono ?_); rintro e w1 ⟨rfl, rfl⟩)
  go_ret
  exact ⟨ret_int (by omega), rfl⟩
 ·rw [if_neg h1]
  rw [show (decide (48 ≤ n) && decide (n ≤ 57)) = false by simp; omega] at HF
  clear h1
  by_cases h2 : 97 ≤ n <;> by_cases h3 : n ≤ 102 <;> by_cases h4 : 65 ≤ n <;> by_cases h5 : n ≤ 70
  all_goals first
   | (exfalso; omega)
   | (go_enter Tryz.func56, Tryz.ntmps56
      go_wp2_with (go_at_call 32; (with_reducible refine (HF.out _).mono ?_); rintro e w1 ⟨rfl, rfl⟩)
      go_ret
      exact ⟨ret_int (by simp only [h2, h3, h4, h5, and_self, and_true, and_false, true_and, false_and, if_true, if_false] <;> omega), rfl⟩)
theorem inner_or (b : UInt8) : Lx.inner b = (Lx.letter b || Lx.figure b) := rfl
theorem letter_not_figure (b : UInt8) (h : Lx.figure b = true) : Lx.letter b = false := by
 have := all256 (fun b => !(Lx.figure b && Lx.letter b)) (by decide +kernel) b
 rw [h] at this; simpa using this
theorem run_alls {p : UInt8 → Bool} : ∀ (l : Lx.Bs), Lx.run p l = l.length ↔ ∀ k (h : k < l.length), p l[k] = true
 | [] => by simp [Lx.run]
 | b :: r => by
  rw [Lx.run_cons]
  constructor
  ·intro h k hk
   split at h
   ·cases k with
    | zero => assumption
    | succ k => simpa using (run_alls r).1 (by simpa using h) k (by simpa using hk)
   ·simp at h
  ·intro h
   have h0 := h 0 (by simp)
   simp only [List.getElem_cons_zero] at h0
   rw [if_pos h0, List.length_cons, (run_alls r).2 fun k hk => by have := h (k + 1) (by simpa using hk); rw [List.getElem_cons_succ] at this; exact this]
set_option maxHeartbeats 2000000 in
theorem rplace_any (s : ByteArray) (n : Nat) (w : World) (hn : n ≤ s.size) (hs : s.size ≤ 100000) :
  Calls Tryz.prog 30 #[.string s, .int .i64 n] w fun e w' => e = .returned (.tuple #[.int .i64 (Lx.adv (1, 1) (s.data.toList.take n)).1, .int .i64 (Lx.adv (1, 1) (s.data.toList.take n)).2]) ∧ w = w' := by
 obtain ⟨l, hl⟩ : ∃ l, l = s.data.toList := ⟨_, rfl⟩
 have Hl := Yq hl
 have Hll := Yq (show l.length = s.size by rw [hl, len_data])
 rw [← hl]
 clear hl
 go_enter Tryz.func30, Tryz.ntmps30
 go_wp2
 go_loop [6, 7, 8] (fun a b i => ∃ k : Nat, k ≤ n ∧ i = .int .i64 k ∧ a = .int .i64 (Lx.adv (1, 1) (l.take k)).1 ∧ b = .int .i64 (Lx.adv (1, 1) (l.take k)).2) (fun _ _ i => n - (intOf i).toNat)
 case atStart => exact ⟨0, Nat.zero_le _, rfl, by simp [Lx.adv], by simp [Lx.adv]⟩
 case round =>
  obtain ⟨k, hk, rfl, rfl, rfl⟩ := hrel
  have hadv := Lx.adv_le (1, 1) (l.take k)
  rw [List.length_take] at hadv
  by_cases hlt : k < n
  ·have hks : k < s.size := by omega
   have hkl : k < l.length := by rw [Hll.out]; exact hks
   have hnext := Lx.adv_take_succ (1, 1) l hkl
   have hbyte : s[k] = l[k] := by have := Hl.out; subst this; rfl
   rw [← hbyte] at hnext
   generalize Lx.adv (1, 1) (l.take k) = q at *
   obtain ⟨q1, q2⟩ := q
   simp only at hadv hnext ⊢
   obtain ⟨hq1, hq2⟩ := hadv
   by_cases h10 : s[k] = 10
   ·rw [if_pos h10] at hnext
    have Hnext := Yq hnext
    have h10' : ((s[k].toNat : Int) == 10) = true := by rw [h10]; rfl
    clear hnext h10 hbyte
    go_wp2
    go_round
    case rel => exact ⟨k + 1, by omega, by go_num, by rw [Hnext.out]; go_num, by rw [Hnext.out]; go_num⟩
    case measure => simp [intOf]; omega
   ·rw [if_neg h10] at hnext
    have Hnext := Yq hnext
    have h10' : ((s[k].toNat : Int) == 10) = false := by
     rw [beq_eq_false_iff_ne]; intro e; exact h10 (UInt8.toNat_inj.1 (by show s[k].toNat = 10; omega))
    clear hnext h10 hbyte
    go_wp2
    go_round
    case rel => exact ⟨k + 1, by omega, by go_num, by rw [Hnext.out], by rw [Hnext.out]; go_num⟩
    case measure => simp [intOf]; omega
  ·have hkn : k = n := by omega
   subst hkn
   go_wp2
   go_ret2
   exact ⟨rfl, rfl⟩
theorem drop_at (l : Lx.Bs) {k : Nat} (h : k < l.length) : l.drop k = l[k] :: l.drop (k + 1) := List.drop_eq_getElem_cons h
theorem two_at (l : Lx.Bs) {k : Nat} (h : k + 1 < l.length) : (l.drop k).take 2 = [l[k], l[k + 1]] := by
 rw [drop_at l (by omega), drop_at l h]; rfl
theorem two_eq (s : ByteArray) (j : Nat) (a b : UInt8) : ((s.extract j (j + 2)).toList == [a, b]) = decide ((s.data.toList.drop j).take 2 = [a, b]) := by
 rw [Lib.toList_data, extract_mid, toB_list, show j + 2 - j = 2 by omega, Bool.eq_iff_iff, beq_iff_eq, decide_eq_true_iff]
theorem idx2_short {l : Lx.Bs} (h : l.length ≤ 1) : Lx.idx2 l = none := by
 match l, h with
 | [], _ => rfl
 | [b], _ => rw [Lx.idx2, if_neg (by simp)]; rfl
theorem idx2_hit {l : Lx.Bs} (h : l.take 2 = [42, 47]) : Lx.idx2 l = some 0 := by
 match l, h with
 | a :: b :: r, h =>
  simp only [List.take_succ_cons, List.take_zero, List.cons.injEq, and_true] at h
  rw [Lx.idx2, if_pos ⟨h.1, by rw [h.2]; rfl⟩]
theorem idx2_miss {l : Lx.Bs} (h : l.take 2 ≠ [42, 47]) (hl : 1 < l.length) : Lx.idx2 l = (Lx.idx2 (l.drop 1)).map (· + 1) := by
 match l, h, hl with
 | a :: b :: r, h, _ =>
  rw [Lx.idx2, if_neg (fun e => h (by rw [e.1]; have := e.2; rw [List.head?_cons, Option.some.injEq] at this; rw [this]; rfl))]
  rfl
theorem skret {k0 j : Nat} {b : Bool} {g : Nat × Bool} (h : g = (j - k0, b)) (hk : k0 ≤ j) : Ending.returned (.tuple #[.int .i64 (j : Nat), .bool b]) = .returned (.tuple #[.int .i64 (k0 + g.1 : Nat), .bool g.2]) := by
 subst h
 simp only
 rw [show k0 + (j - k0) = j by omega]
set_option maxHeartbeats 2000000 in
set_option maxRecDepth 100000 in
theorem rskip_any (s : ByteArray) (k0 : Nat) (w : World) (hk0 : k0 ≤ s.size) (hs : s.size ≤ 5000) :
  Calls Tryz.prog 29 #[.string s, .int .i64 k0] w fun e w' => e = .returned (.tuple #[.int .i64 (k0 + (Lx.gapN (s.data.toList.drop k0)).1 : Nat), .bool (Lx.gapN (s.data.toList.drop k0)).2]) ∧ w = w' := by
 obtain ⟨l, hl⟩ : ∃ l, l = s.data.toList := ⟨_, rfl⟩
 have Hl := Yq hl
 have Hll := Yq (show l.length = s.size by rw [hl, len_data])
 rw [← hl]
 clear hl
 go_enter Tryz.func29, Tryz.ntmps29
 go_wp2
 go_loop [1] (fun i => ∃ j : Nat, i = .int .i64 j ∧ k0 ≤ j ∧ j ≤ s.size ∧ Lx.gapN (l.drop k0) = ((Lx.gapN (l.drop j)).1 + (j - k0), (Lx.gapN (l.drop j)).2)) (fun i => s.size - (intOf i).toNat)
 case atStart => exact ⟨k0, rfl, Nat.le_refl _, hk0, by simp⟩
 case round =>
  obtain ⟨j, rfl, hk, hj, hgap⟩ := hrel
  have Hgap := Yq hgap
  clear hgap
  by_cases hlt : j < s.size
  ·have hjl : j < l.length := by rw [Hll.out]; exact hlt
   have hbyte : s[j] = l[j] := by have := Hl.out; subst this; rfl
   have hdrop := drop_at l hjl
   rw [← hbyte] at hdrop
   by_cases hg : Lx.isGap s[j] = true
   ·have Hnx : Hid (Lx.gapN (l.drop k0) = ((Lx.gapN (l.drop (j + 1))).1 + (j + 1 - k0), (Lx.gapN (l.drop (j + 1))).2)) := Yq (by
     rw [Hgap.out, hdrop, Lx.gapN_cons hg]; simp only [Prod.mk.injEq, and_true]; omega)
    have hsm : (s[j].toNat : Int) = 32 ∨ (s[j].toNat : Int) = 9 ∨ (s[j].toNat : Int) = 13 ∨ (s[j].toNat : Int) = 10 := by
     have := all256 (fun b => !(Lx.isGap b) || decide ((b.toNat : Int) = 32 ∨ (b.toNat : Int) = 9 ∨ (b.toNat : Int) = 13 ∨ (b.toNat : Int) = 10)) (by decide +kernel) s[j]
     rw [hg] at this; exact of_decide_eq_true this
    clear hdrop hbyte hg
    rcases hsm with e | e | e | e
    all_goals
     go_wp2
     go_round
     case rel => exact ⟨j + 1, by go_num, by omega, by omega, Hnx.out⟩
     case measure => simp [intOf]; omega
   ·have hgf : Lx.isGap s[j] = false := by simpa using hg
    have hsm : ((s[j].toNat : Int) == 32) = false ∧ ((s[j].toNat : Int) == 9) = false ∧ ((s[j].toNat : Int) == 13) = false ∧ ((s[j].toNat : Int) == 10) = false := by
     have := all256 (fun b => (Lx.isGap b) || (!((b.toNat : Int) == 32) && !((b.toNat : Int) == 9) && !((b.toNat : Int) == 13) && !((b.toNat : Int) == 10))) (by decide +kernel) s[j]
     rw [hgf] at this; simp only [Bool.false_or, Bool.and_eq_true, Bool.not_eq_true', and_assoc] at this; exact this
    obtain ⟨n1, n2, n3, n4⟩ := hsm
    have hrun0 : Lx.run Lx.isGap (l.drop j) = 0 := by rw [hdrop, Lx.run_cons, if_neg hg]
    have hrem := gap1_rem _ hrun0
    by_cases h2 : j + 1 < s.size
    ·have hjl2 : j + 1 < l.length := by rw [Hll.out]; exact h2
     have hbyte2 : s[j + 1] = l[j + 1] := by have := Hl.out; subst this; rfl
     have htake := two_at l (k := j) hjl2
     rw [← hbyte, ← hbyte2] at htake
     have H47 := two_eq s j 47 47
     have H42 := two_eq s j 47 42
     rw [← Hl.out] at H47 H42
     have Htake := Yq htake
     clear htake hbyte hbyte2 hdrop hg hgf
     by_cases h47 : (l.drop j).take 2 = [47, 47]
     ·rw [decide_eq_true h47] at H47
      have Hrun : Hid (Lx.gap1 (l.drop j) = some (some (Lx.run (· != 10) (l.drop j)))) := Yq (by rw [hrem]; unfold rem1; rw [if_pos h47])
      have Hpos := Yq (Lx.gap1_pos Hrun.out).1
      clear H42 h47 hrem hrun0
      go_wp2_with fail
      go_loop [1] (fun i => ∃ m : Nat, i = .int .i64 m ∧ j ≤ m ∧ m ≤ s.size ∧ Lx.run (· != 10) (l.drop j) = Lx.run (· != 10) (l.drop m) + (m - j)) (fun i => s.size - (intOf i).toNat)
      case atStart => exact ⟨j, rfl, Nat.le_refl _, hj, by simp⟩
      case round =>
       obtain ⟨m, rfl, hjm, hm, hr⟩ := hrel
       have Hr := Yq hr
       clear hr
       have Hnx : Hid (Lx.run (· != 10) (l.drop m) = 0 → Lx.gapN (l.drop k0) = ((Lx.gapN (l.drop m)).1 + (m - k0), (Lx.gapN (l.drop m)).2) ∧ j < m) := Yq (fun h0 => by
        have hp := Hpos.out
        rw [Hr.out, h0, Nat.zero_add] at hp
        refine ⟨?_, by omega⟩
        rw [Hgap.out, Lx.gapN_some Hrun.out, List.drop_drop, Hr.out, h0]
        rw [show j + (0 + (m - j)) = m by omega]
        simp only [Prod.mk.injEq, and_true]; omega)
       by_cases hms : m < s.size
       ·have hml : m < l.length := by rw [Hll.out]; exact hms
        have hb : s[m] = l[m] := by have := Hl.out; subst this; rfl
        have hd := drop_at l hml
        rw [← hb] at hd
        by_cases h10 : s[m] = 10
        ·have h10' : ((s[m].toNat : Int) == 10) = true := by rw [h10]; rfl
         have hN := Hnx.out (by rw [hd, Lx.run_cons, h10]; rfl)
         have HN := Yq hN.1
         have hjm' := hN.2
         clear hN hd hb h10
         go_wp2_with fail
         go_round
         case rel => exact ⟨m, rfl, by omega, by omega, HN.out⟩
         case measure => simp [intOf]; omega
        ·have h10' : ((s[m].toNat : Int) == 10) = false := by
          rw [beq_eq_false_iff_ne]; intro e; exact h10 (UInt8.toNat_inj.1 (by show s[m].toNat = 10; omega))
         have HN : Hid (Lx.run (· != 10) (l.drop j) = Lx.run (· != 10) (l.drop (m + 1)) + (m + 1 - j)) := Yq (by
          rw [Hr.out, hd, Lx.run_cons, if_pos (by rw [bne_iff_ne]; exact h10)]; omega)
         clear hd hb h10
         go_wp2_with fail
         go_round
         case rel => exact ⟨m + 1, by go_num, by omega, by omega, HN.out⟩
         case measure => simp [intOf]; omega
       ·have hN := Hnx.out (by rw [List.drop_of_length_le (by rw [Hll.out]; omega)]; rfl)
        have HN := Yq hN.1
        have hjm' := hN.2
        clear hN
        go_wp2_with fail
        go_round
        case rel => exact ⟨m, rfl, by omega, by omega, HN.out⟩
        case measure => simp [intOf]; omega
     ·rw [decide_eq_false h47] at H47
      by_cases h42 : (l.drop j).take 2 = [47, 42]
      ·rw [decide_eq_true h42] at H42
       have Hrem : Hid (Lx.gap1 (l.drop j) = some ((Lx.idx2 (l.drop (j + 2))).map (· + 4))) := Yq (by rw [hrem]; unfold rem1; rw [if_neg h47, if_pos h42, List.drop_drop])
       clear h47 h42 hrem hrun0
       go_wp2_with fail
       go_loop [8] (fun i => ∃ m : Nat, i = .int .i64 m ∧ j + 2 ≤ m ∧ m ≤ s.size ∧ Lx.idx2 (l.drop (j + 2)) = (Lx.idx2 (l.drop m)).map (· + (m - (j + 2)))) (fun i => s.size - (intOf i).toNat)
       case atStart => exact ⟨j + 2, by go_num, Nat.le_refl _, by omega, by cases Lx.idx2 (l.drop (j + 2)) <;> simp⟩
       case round =>
        obtain ⟨m, rfl, hjm, hm, hr⟩ := hrel
        have Hr := Yq hr
        clear hr
        by_cases hms : m + 1 < s.size
        ·have hml : m + 1 < l.length := by rw [Hll.out]; exact hms
         have H4 := two_eq s m 42 47
         rw [← Hl.out] at H4
         by_cases hh : (l.drop m).take 2 = [42, 47]
         ·rw [decide_eq_true hh] at H4
          have Hnx : Hid (Lx.gapN (l.drop k0) = ((Lx.gapN (l.drop (m + 2))).1 + (m + 2 - k0), (Lx.gapN (l.drop (m + 2))).2)) := Yq (by
           have h1 : Lx.gap1 (l.drop j) = some (some (m + 2 - j)) := by
            rw [Hrem.out, Hr.out, idx2_hit hh]; simp; omega
           rw [Hgap.out, Lx.gapN_some h1, List.drop_drop, show j + (m + 2 - j) = m + 2 by omega]
           simp only [Prod.mk.injEq, and_true]; omega)
          clear hh
          go_wp2_with fail
          go_round
          case rel => exact ⟨m + 2, by go_num, by omega, by omega, Hnx.out⟩
          case measure => simp [intOf]; omega
         ·rw [decide_eq_false hh] at H4
          have Hnx : Hid (Lx.idx2 (l.drop (j + 2)) = (Lx.idx2 (l.drop (m + 1))).map (· + (m + 1 - (j + 2)))) := Yq (by
           rw [Hr.out, idx2_miss hh (by rw [List.length_drop]; omega), List.drop_drop]
           cases Lx.idx2 (l.drop (m + 1)) with
           | none => rfl
           | some y => simp; omega)
          clear hh
          go_wp2_with fail
          go_round
          case rel => exact ⟨m + 1, by go_num, by omega, by omega, Hnx.out⟩
          case measure => simp [intOf]; omega
        ·have hbad : ¬ ((m : Int) + 1 < (s.size : Int)) := by omega
         have hbad2 : (s.size : Int) ≤ (m : Int) + 1 := by omega
         have Hend : Hid (Lx.gapN (l.drop k0) = (j - k0, false)) := Yq (by
          have h1 : Lx.gap1 (l.drop j) = some none := by
           rw [Hrem.out, Hr.out, idx2_short (by rw [List.length_drop, Hll.out]; omega)]; rfl
          rw [Hgap.out, Lx.gapN_bad h1]; simp)
         go_wp2_with fail
         go_ret2
         exact ⟨skret Hend.out hk, rfl⟩
      ·rw [decide_eq_false h42] at H42
       have Hend : Hid (Lx.gapN (l.drop k0) = (j - k0, true)) := Yq (by
        have : rem1 (l.drop j) = none := by
         unfold rem1
         rw [if_neg h47, if_neg h42]
        rw [Hgap.out, Lx.gapN_none (hrem.trans this)]; simp)
       clear h47 h42 hrem hrun0
       go_wp2
       go_ret2
       exact ⟨skret Hend.out hk, rfl⟩
    ·have hbad : ¬ ((j : Int) + 1 < (s.size : Int)) := by omega
     have Hend : Hid (Lx.gapN (l.drop k0) = (j - k0, true)) := Yq (by
      have : rem1 (l.drop j) = none := by
       unfold rem1
       have hle : ((l.drop j).take 2).length ≤ 1 := by rw [List.length_take, List.length_drop, Hll.out]; omega
       rw [if_neg (fun e => by rw [e] at hle; simp at hle), if_neg (fun e => by rw [e] at hle; simp at hle)]
      rw [Hgap.out, Lx.gapN_none (hrem.trans this)]; simp)
     clear hrun0 hrem hdrop hbyte hg hgf
     go_wp2
     go_ret2
     exact ⟨skret Hend.out hk, rfl⟩
  ·have Hend : Hid (Lx.gapN (l.drop k0) = (j - k0, true)) := Yq (by
    rw [Hgap.out, List.drop_of_length_le (by rw [Hll.out]; omega), Lx.gapN_none (by decide)]; simp)
   have hbad : ¬ ((j : Int) < (s.size : Int)) := by omega
   clear hlt
   go_wp2
   go_ret2
   exact ⟨skret Hend.out hk, rfl⟩
def rnumV : Lx.Res Nat → Nat × Nat
 | .bad n => (0, n)
 | .ok x => (x, 0)
def capF (base n : Nat) (b : UInt8) : Nat := if n ≤ 2147483647 then n * base + dig b else n
def capV (base : Nat) (l : Lx.Bs) : Nat := l.foldl (capF base) 0
theorem capV_succ (base : Nat) (l : Lx.Bs) {k : Nat} (h : k < l.length) : capV base (l.take (k + 1)) = capF base (capV base (l.take k)) l[k] := by
 unfold capV; rw [List.take_succ_eq_append_getElem h, List.foldl_append]; rfl
theorem dig_lt {base : Nat} {b : UInt8} (hb : base ≤ 16) : dig b < base ↔ Lx.digit b < base := by
 unfold dig; split <;> omega
theorem dig_eq {b : UInt8} (h : Lx.digit b < 16) : dig b = Lx.digit b := by unfold dig; rw [if_pos h]
theorem dig_le (b : UInt8) : dig b ≤ 99 := by unfold dig; split <;> omega
theorem capV_le (base : Nat) (hb : base ≤ 16) (l : Lx.Bs) : ∀ k, k ≤ l.length → capV base (l.take k) ≤ 34359738467
 | 0, _ => by simp [capV]
 | k + 1, h => by
  have ih := capV_le base hb l k (by omega)
  rw [capV_succ base l h]
  unfold capF
  split
  ·rename_i h2
   have := dig_le l[k]
   have := Nat.mul_le_mul h2 hb
   omega
  ·exact ih
theorem cap_fold (base : Nat) (hb : base ≤ 16) (hp : 0 < base) : ∀ (l : Lx.Bs) (n m : Nat), (∀ b ∈ l, Lx.digit b < base) → ((n ≤ 2147483647 ∧ n = m) ∨ (2147483647 < n ∧ 2147483647 < m)) →
  ((l.foldl (capF base) n ≤ 2147483647 ∧ l.foldl (capF base) n = l.foldl (fun n b => n * base + Lx.digit b) m) ∨ (2147483647 < l.foldl (capF base) n ∧ 2147483647 < l.foldl (fun n b => n * base + Lx.digit b) m))
 | [], n, m, _, h => h
 | b :: r, n, m, hd, h => by
  rw [List.foldl_cons, List.foldl_cons]
  refine cap_fold base hb hp r _ _ (fun c hc => hd c (List.mem_cons_of_mem _ hc)) ?_
  have hdb := hd b List.mem_cons_self
  have e := dig_eq (b := b) (by omega)
  unfold capF
  rcases h with ⟨h1, rfl⟩ | ⟨h1, h2⟩
  ·rw [if_pos h1, e]; omega
  ·rw [if_neg (by omega)]
   have := Nat.mul_le_mul_left m hp
   refine .inr ⟨h1, ?_⟩
   omega
theorem capV_value (base : Nat) (hb : base ≤ 16) (hp : 0 < base) (l : Lx.Bs) (hd : ∀ b ∈ l, Lx.digit b < base) : (capV base l ≤ 2147483647 ∧ capV base l = Lx.valueOf base l) ∨ (2147483647 < capV base l ∧ 2147483647 < Lx.valueOf base l) :=
 cap_fold base hb hp l 0 0 hd (.inl ⟨by omega, rfl⟩)
theorem run_mem {p : UInt8 → Bool} {l : Lx.Bs} (h : ∀ b ∈ l, p b = true) : Lx.run p l = l.length :=
 (run_alls l).2 fun k hk => h _ (List.getElem_mem hk)
theorem run_lt {p : UInt8 → Bool} {l : Lx.Bs} {k : Nat} (hk : k < l.length) (h : p l[k] = false) : Lx.run p l < l.length := by
 rcases Nat.lt_or_ge (Lx.run p l) l.length with h2 | h2
 ·exact h2
 ·have := (run_alls (p := p) l).1 (Nat.le_antisymm (Lx.run_le p l) h2) k hk
  rw [h] at this; cases this
theorem rnumber_of {l ds : Lx.Bs} {base : Nat} (h : Lx.baseOf l = (base, ds)) (hb : base ≤ 16) (hp : 0 < base) :
  (ds = [] → Lx.number l = .bad 9) ∧ (∀ k (hk : k < ds.length), ¬ dig ds[k] < base → Lx.number l = .bad 9) ∧
  (ds ≠ [] → (∀ k (hk : k < ds.length), dig ds[k] < base) → (2147483647 < capV base ds → Lx.number l = .bad 1) ∧ (capV base ds ≤ 2147483647 → Lx.number l = .ok (capV base ds))) := by
 unfold Lx.number
 rw [h]
 simp only
 refine ⟨fun e => if_pos (.inl e), fun k hk hd => if_pos (.inr (run_lt hk (decide_eq_false (fun e => hd ((dig_lt hb).2 e))))), fun hne hd => ?_⟩
 have hm : ∀ b ∈ ds, Lx.digit b < base := fun b hbm => by
  obtain ⟨k, hk, rfl⟩ := List.mem_iff_getElem.1 hbm
  exact (dig_lt hb).1 (hd k hk)
 have hr : Lx.run (fun b => decide (Lx.digit b < base)) ds = ds.length := run_mem fun b hbm => decide_eq_true (hm b hbm)
 rw [if_neg (fun e => e.elim hne (fun e => by omega))]
 have hv := capV_value base hb hp ds hm
 constructor
 ·intro h1
  rw [if_pos (by omega)]
 ·intro h1
  rw [if_neg (by omega)]
  rcases hv with ⟨_, e⟩ | ⟨e, _⟩
  ·rw [e]
  ·omega
theorem take2_of {l : Lx.Bs} {a b : UInt8} (h0 : 1 < l.length) (ha : l[0] = a) (hb : l[1] = b) : l.take 2 = [a, b] := by
 match l, h0, ha, hb with
 | x :: y :: r, _, ha, hb => simp at ha hb; rw [ha, hb]; rfl
theorem base_hex {l : Lx.Bs} (h0 : 1 < l.length) (ha : l[0] = 48) (hb : l[1] = 120 ∨ l[1] = 88) : Lx.baseOf l = (16, l.drop 2) := by
 unfold Lx.baseOf
 rw [if_pos (hb.imp (take2_of h0 ha) (take2_of h0 ha))]
theorem base_oct {l : Lx.Bs} (h0 : 1 < l.length) (ha : l[0] = 48) (hb : ¬ (l[1] = 120 ∨ l[1] = 88)) : Lx.baseOf l = (8, l.drop 1) := by
 unfold Lx.baseOf
 match l, h0, ha, hb with
 | x :: y :: r, h0, ha, hb =>
  simp only [List.getElem_cons_zero, List.getElem_cons_succ] at ha hb
  rw [if_neg (fun e => hb (e.imp (fun e => by simpa using (List.cons.inj e).2) (fun e => by simpa using (List.cons.inj e).2))), if_pos ⟨h0, by rw [ha]; rfl⟩]
theorem base_ten {l : Lx.Bs} (h : ¬ (1 < l.length ∧ l.head? = some 48)) : Lx.baseOf l = (10, l) := by
 unfold Lx.baseOf
 have h2 : ∀ b : UInt8, ¬ l.take 2 = [48, b] := fun b e => h (by
  match l, e with
  | x :: y :: r, e => simp at e; exact ⟨by simp, by rw [e.1]; rfl⟩)
 rw [if_neg (fun e => e.elim (h2 _) (h2 _)), if_neg h]
theorem byte_eq {b k : UInt8} (h : ((b.toNat : Int) == (k.toNat : Int)) = true) : b = k := by
 rw [beq_iff_eq] at h; exact UInt8.toNat_inj.1 (by omega)
theorem byte_ne {b k : UInt8} (h : ((b.toNat : Int) == (k.toNat : Int)) = false) : ¬ b = k := by
 rw [beq_eq_false_iff_ne] at h; intro e; subst e; exact h rfl
theorem numret {l : Lx.Bs} {r : Lx.Res Nat} (h : Lx.number l = r) : Ending.returned (.tuple #[.int .i64 (rnumV r).1, .int .i64 (rnumV r).2]) = .returned (.tuple #[.int .i64 (rnumV (Lx.number l)).1, .int .i64 (rnumV (Lx.number l)).2]) := by rw [h]
set_option maxHeartbeats 2000000 in
set_option maxRecDepth 100000 in
theorem rnumber_ten (s : ByteArray) (w : World) (hs : s.size ≤ 5000) (h10 : ¬ (1 < s.size ∧ s.data.toList.head? = some 48)) :
  Calls Tryz.prog 33 #[.string s] w fun e w' => e = .returned (.tuple #[.int .i64 (rnumV (Lx.number s.data.toList)).1, .int .i64 (rnumV (Lx.number s.data.toList)).2]) ∧ w = w' := by
 have hbase := base_ten (l := s.data.toList) (by rw [len_data]; exact h10)
 have h1z : ¬ ((1 : Int) < (s.size : Int)) ∨ ∃ h : 1 < s.size, ((s[0].toNat : Int) == 48) = false := by
  by_cases h1 : 1 < s.size
  ·refine .inr ⟨h1, ?_⟩
   rw [beq_eq_false_iff_ne]
   intro e
   refine h10 ⟨h1, ?_⟩
   rw [List.head?_eq_getElem?, List.getElem?_eq_getElem (by rw [len_data]; omega)]
   exact congrArg some (UInt8.toNat_inj.1 (by show s[0].toNat = 48; omega))
  ·exact .inl (by omega)
 clear h10
 rcases h1z with h1z | ⟨hp, h48⟩
 all_goals
  obtain ⟨l, hl⟩ : ∃ l, l = s.data.toList := ⟨_, rfl⟩
  have Hl := Yq hl
  have Hll := Yq (show l.length = s.size by rw [hl, len_data])
  rw [← hl] at hbase ⊢
  clear hl
  obtain ⟨n0, n1, n2⟩ := rnumber_of hbase (by decide) (by decide)
  have N0 := Yq n0; have N1 := Yq n1; have N2 := Yq n2
  have hdl : (l).length = s.size - 0 := by rw [Hll.out]; rfl
  have Hdl := Yq hdl
  clear n0 n1 n2 hbase hdl
  by_cases hz : s.size = 0
  ·have hzz : ((0 : Int) == (s.size : Int)) = true := by rw [hz]; rfl
   have Hend := Yq (N0.out (List.eq_nil_of_length_eq_zero (by rw [Hdl.out]; omega)))
   clear hz
   go_enter Tryz.func33, Tryz.ntmps33
   go_wp2
   go_ret2
   exact ⟨numret Hend.out.symm.symm, rfl⟩
  ·have hzz : ((0 : Int) == (s.size : Int)) = false := by rw [beq_eq_false_iff_ne]; omega
   have Hne : Hid (l ≠ []) := Yq (fun e => by have := Hdl.out; rw [e] at this; simp at this; omega)
   clear hz
   go_enter Tryz.func33, Tryz.ntmps33
   go_wp2_with fail
   go_loop [6, 7] (fun n i => ∃ k : Nat, i = .int .i64 (k : Nat) ∧ k ≤ s.size ∧ n = .int .i64 (capV 10 ((l).take k)) ∧ ∀ j (h : j < (l).length), j < k → dig (l)[j] < 10) (fun _ i => s.size - (intOf i).toNat)
   case atStart => exact ⟨0, rfl, by omega, rfl, fun j _ h => absurd h (by omega)⟩
   case round =>
    obtain ⟨k, rfl, hk, rfl, hall⟩ := hrel
    have Hall := Yq hall
    clear hall
    have hcle := capV_le 10 (by decide) (l) k (by rw [Hdl.out]; omega)
    by_cases hlt : k < s.size
    ·have hkl : k < (l).length := by rw [Hdl.out]; omega
     have hbyte : s[k] = (l)[k] := by
      have := Hl.out; subst this
      rfl
     have hcs := capV_succ 10 (l) hkl
     unfold capF at hcs
     have hdl := dig_le s[k]
     have HD := Yq (fun w0 => rdigit_any s[k] w0)
     have N1k := N1.out k hkl
     rw [← hbyte] at hcs N1k
     have Hnext : Hid (dig s[k] < 10 → ∀ j (h : j < (l).length), j < k + 1 → dig (l)[j] < 10) := Yq (fun hd j h hj => by
      by_cases e : j = k
      ·subst e; rw [← hbyte]; exact hd
      ·exact Hall.out j h (by omega))
     generalize capV 10 ((l).take k) = c at *
     generalize dig s[k] = d at *
     by_cases hd : d < 10
     ·have hdz : ¬ ((10 : Int) ≤ (d : Int)) := by omega
      have HN := Yq (Hnext.out hd)
      clear N1k hbyte Hnext
      by_cases hc : c ≤ 2147483647
      ·rw [if_pos hc] at hcs
       have hcz : (c : Int) ≤ 2147483647 := by omega
       have Hcs := Yq hcs
       clear hcs
       go_wp2_with (go_at_call 56; (with_reducible refine (HD.out _).mono ?_); rintro e w1 ⟨rfl, rfl⟩)
       go_round
       case rel => exact ⟨k + 1, by go_num, by omega, by rw [Hcs.out]; go_num, HN.out⟩
       case measure => simp [intOf]; omega
      ·rw [if_neg hc] at hcs
       have hcz : ¬ ((c : Int) ≤ 2147483647) := by omega
       have Hcs := Yq hcs
       clear hcs
       go_wp2_with (go_at_call 56; (with_reducible refine (HD.out _).mono ?_); rintro e w1 ⟨rfl, rfl⟩)
       go_round
       case rel => exact ⟨k + 1, by go_num, by omega, by rw [Hcs.out], HN.out⟩
       case measure => simp [intOf]; omega
     ·have hdz : (10 : Int) ≤ (d : Int) := by omega
      have Hend := Yq (N1k hd)
      clear N1k hbyte Hnext hcs
      go_wp2_with (go_at_call 56; (with_reducible refine (HD.out _).mono ?_); rintro e w1 ⟨rfl, rfl⟩)
      go_ret2
      exact ⟨numret Hend.out, rfl⟩
    ·have hbad : ¬ (((k : Nat) : Int) < (s.size : Int)) := by omega
     have hfull : (l).take k = l := List.take_of_length_le (by rw [Hdl.out]; omega)
     have N2' := N2.out Hne.out (fun j h => Hall.out j h (by have := Hdl.out; omega))
     rw [hfull] at hcle ⊢
     generalize capV 10 (l) = c at *
     by_cases hc : 2147483647 < c
     ·have hcz : (2147483647 : Int) < (c : Int) := by omega
      have Hend := Yq (N2'.1 hc)
      clear N2' hfull
      go_wp2_with fail
      go_ret2
      exact ⟨numret Hend.out, rfl⟩
     ·have hcz : ¬ ((2147483647 : Int) < (c : Int)) := by omega
      have Hend := Yq (N2'.2 (by omega))
      clear N2' hfull
      go_wp2_with fail
      go_ret2
      exact ⟨numret Hend.out, rfl⟩

set_option maxHeartbeats 2000000 in
set_option maxRecDepth 100000 in
theorem rnumber_hex (s : ByteArray) (w : World) (hs : s.size ≤ 5000) (h1 : 1 < s.size) (h48 : ((s[0].toNat : Int) == 48) = true) (hx : ((s[1].toNat : Int) == 120) = true ∨ (((s[1].toNat : Int) == 120) = false ∧ ((s[1].toNat : Int) == 88) = true)) :
  Calls Tryz.prog 33 #[.string s] w fun e w' => e = .returned (.tuple #[.int .i64 (rnumV (Lx.number s.data.toList)).1, .int .i64 (rnumV (Lx.number s.data.toList)).2]) ∧ w = w' := by
 have hbase := base_hex (l := s.data.toList) (by rw [len_data]; exact h1) (byte_eq (k := 48) h48) (hx.imp (byte_eq (k := 120)) (fun e => byte_eq (k := 88) e.2))
 rcases hx with hx1 | ⟨hx1, hx2⟩
 all_goals
  obtain ⟨l, hl⟩ : ∃ l, l = s.data.toList := ⟨_, rfl⟩
  have Hl := Yq hl
  have Hll := Yq (show l.length = s.size by rw [hl, len_data])
  rw [← hl] at hbase ⊢
  clear hl
  obtain ⟨n0, n1, n2⟩ := rnumber_of hbase (by decide) (by decide)
  have N0 := Yq n0; have N1 := Yq n1; have N2 := Yq n2
  have hdl : (l.drop 2).length = s.size - 2 := by rw [List.length_drop, Hll.out]
  have Hdl := Yq hdl
  clear n0 n1 n2 hbase hdl
  by_cases hz : s.size = 2
  ·have hzz : ((2 : Int) == (s.size : Int)) = true := by rw [hz]; rfl
   have Hend := Yq (N0.out (List.eq_nil_of_length_eq_zero (by rw [Hdl.out]; omega)))
   clear hz
   go_enter Tryz.func33, Tryz.ntmps33
   go_wp2
   go_ret2
   exact ⟨numret Hend.out.symm.symm, rfl⟩
  ·have hzz : ((2 : Int) == (s.size : Int)) = false := by rw [beq_eq_false_iff_ne]; omega
   have Hne : Hid (l.drop 2 ≠ []) := Yq (fun e => by have := Hdl.out; rw [e] at this; simp at this; omega)
   clear hz
   go_enter Tryz.func33, Tryz.ntmps33
   go_wp2_with fail
   go_loop [6, 7] (fun n i => ∃ k : Nat, i = .int .i64 (2 + k : Nat) ∧ 2 + k ≤ s.size ∧ n = .int .i64 (capV 16 ((l.drop 2).take k)) ∧ ∀ j (h : j < (l.drop 2).length), j < k → dig (l.drop 2)[j] < 16) (fun _ i => s.size - (intOf i).toNat)
   case atStart => exact ⟨0, rfl, by omega, rfl, fun j _ h => absurd h (by omega)⟩
   case round =>
    obtain ⟨k, rfl, hk, rfl, hall⟩ := hrel
    have Hall := Yq hall
    clear hall
    have hcle := capV_le 16 (by decide) (l.drop 2) k (by rw [Hdl.out]; omega)
    by_cases hlt : 2 + k < s.size
    ·have hkl : k < (l.drop 2).length := by rw [Hdl.out]; omega
     have hbyte : s[2 + k] = (l.drop 2)[k] := by
      have := Hl.out; subst this
      rw [List.getElem_drop]; rfl
     have hcs := capV_succ 16 (l.drop 2) hkl
     unfold capF at hcs
     have hdl := dig_le s[2 + k]
     have HD := Yq (fun w0 => rdigit_any s[2 + k] w0)
     have N1k := N1.out k hkl
     rw [← hbyte] at hcs N1k
     have Hnext : Hid (dig s[2 + k] < 16 → ∀ j (h : j < (l.drop 2).length), j < k + 1 → dig (l.drop 2)[j] < 16) := Yq (fun hd j h hj => by
      by_cases e : j = k
      ·subst e; rw [← hbyte]; exact hd
      ·exact Hall.out j h (by omega))
     generalize capV 16 ((l.drop 2).take k) = c at *
     generalize dig s[2 + k] = d at *
     have e1 : (((2 + k : Nat) : Int)) = (2 : Int) + k := by push_cast; rfl
     by_cases hd : d < 16
     ·have hdz : ¬ ((16 : Int) ≤ (d : Int)) := by omega
      have HN := Yq (Hnext.out hd)
      clear N1k hbyte Hnext
      by_cases hc : c ≤ 2147483647
      ·rw [if_pos hc] at hcs
       have hcz : (c : Int) ≤ 2147483647 := by omega
       have Hcs := Yq hcs
       clear hcs
       go_wp2_with (go_at_call 56; (with_reducible refine (HD.out _).mono ?_); rintro e w1 ⟨rfl, rfl⟩)
       go_round
       case rel => exact ⟨k + 1, by go_num, by omega, by rw [Hcs.out]; go_num, HN.out⟩
       case measure => simp [intOf]; omega
      ·rw [if_neg hc] at hcs
       have hcz : ¬ ((c : Int) ≤ 2147483647) := by omega
       have Hcs := Yq hcs
       clear hcs
       go_wp2_with (go_at_call 56; (with_reducible refine (HD.out _).mono ?_); rintro e w1 ⟨rfl, rfl⟩)
       go_round
       case rel => exact ⟨k + 1, by go_num, by omega, by rw [Hcs.out], HN.out⟩
       case measure => simp [intOf]; omega
     ·have hdz : (16 : Int) ≤ (d : Int) := by omega
      have Hend := Yq (N1k hd)
      clear N1k hbyte Hnext hcs
      go_wp2_with (go_at_call 56; (with_reducible refine (HD.out _).mono ?_); rintro e w1 ⟨rfl, rfl⟩)
      go_ret2
      exact ⟨numret Hend.out, rfl⟩
    ·have hbad : ¬ (((2 + k : Nat) : Int) < (s.size : Int)) := by omega
     have hfull : (l.drop 2).take k = l.drop 2 := List.take_of_length_le (by rw [Hdl.out]; omega)
     have N2' := N2.out Hne.out (fun j h => Hall.out j h (by have := Hdl.out; omega))
     rw [hfull] at hcle ⊢
     generalize capV 16 (l.drop 2) = c at *
     by_cases hc : 2147483647 < c
     ·have hcz : (2147483647 : Int) < (c : Int) := by omega
      have Hend := Yq (N2'.1 hc)
      clear N2' hfull
      go_wp2_with fail
      go_ret2
      exact ⟨numret Hend.out, rfl⟩
     ·have hcz : ¬ ((2147483647 : Int) < (c : Int)) := by omega
      have Hend := Yq (N2'.2 (by omega))
      clear N2' hfull
      go_wp2_with fail
      go_ret2
      exact ⟨numret Hend.out, rfl⟩

set_option maxHeartbeats 2000000 in
set_option maxRecDepth 100000 in
theorem rnumber_oct (s : ByteArray) (w : World) (hs : s.size ≤ 5000) (h1 : 1 < s.size) (h48 : ((s[0].toNat : Int) == 48) = true) (hx1 : ((s[1].toNat : Int) == 120) = false) (hx2 : ((s[1].toNat : Int) == 88) = false) :
  Calls Tryz.prog 33 #[.string s] w fun e w' => e = .returned (.tuple #[.int .i64 (rnumV (Lx.number s.data.toList)).1, .int .i64 (rnumV (Lx.number s.data.toList)).2]) ∧ w = w' := by
 have hbase := base_oct (l := s.data.toList) (by rw [len_data]; exact h1) (byte_eq (k := 48) h48) (fun e => e.elim (byte_ne (k := 120) hx1) (byte_ne (k := 88) hx2))
 obtain ⟨l, hl⟩ : ∃ l, l = s.data.toList := ⟨_, rfl⟩
 have Hl := Yq hl
 have Hll := Yq (show l.length = s.size by rw [hl, len_data])
 rw [← hl] at hbase ⊢
 clear hl
 obtain ⟨n0, n1, n2⟩ := rnumber_of hbase (by decide) (by decide)
 have N0 := Yq n0; have N1 := Yq n1; have N2 := Yq n2
 have hdl : (l.drop 1).length = s.size - 1 := by rw [List.length_drop, Hll.out]
 have Hdl := Yq hdl
 clear n0 n1 n2 hbase hdl
 by_cases hz : s.size = 1
 ·have hzz : ((1 : Int) == (s.size : Int)) = true := by rw [hz]; rfl
  have Hend := Yq (N0.out (List.eq_nil_of_length_eq_zero (by rw [Hdl.out]; omega)))
  clear hz
  go_enter Tryz.func33, Tryz.ntmps33
  go_wp2
  go_ret2
  exact ⟨numret Hend.out.symm.symm, rfl⟩
 ·have hzz : ((1 : Int) == (s.size : Int)) = false := by rw [beq_eq_false_iff_ne]; omega
  have Hne : Hid (l.drop 1 ≠ []) := Yq (fun e => by have := Hdl.out; rw [e] at this; simp at this; omega)
  clear hz
  go_enter Tryz.func33, Tryz.ntmps33
  go_wp2_with fail
  go_loop [6, 7] (fun n i => ∃ k : Nat, i = .int .i64 (1 + k : Nat) ∧ 1 + k ≤ s.size ∧ n = .int .i64 (capV 8 ((l.drop 1).take k)) ∧ ∀ j (h : j < (l.drop 1).length), j < k → dig (l.drop 1)[j] < 8) (fun _ i => s.size - (intOf i).toNat)
  case atStart => exact ⟨0, rfl, by omega, rfl, fun j _ h => absurd h (by omega)⟩
  case round =>
   obtain ⟨k, rfl, hk, rfl, hall⟩ := hrel
   have Hall := Yq hall
   clear hall
   have hcle := capV_le 8 (by decide) (l.drop 1) k (by rw [Hdl.out]; omega)
   by_cases hlt : 1 + k < s.size
   ·have hkl : k < (l.drop 1).length := by rw [Hdl.out]; omega
    have hbyte : s[1 + k] = (l.drop 1)[k] := by
     have := Hl.out; subst this
     rw [List.getElem_drop]; rfl
    have hcs := capV_succ 8 (l.drop 1) hkl
    unfold capF at hcs
    have hdl := dig_le s[1 + k]
    have HD := Yq (fun w0 => rdigit_any s[1 + k] w0)
    have N1k := N1.out k hkl
    rw [← hbyte] at hcs N1k
    have Hnext : Hid (dig s[1 + k] < 8 → ∀ j (h : j < (l.drop 1).length), j < k + 1 → dig (l.drop 1)[j] < 8) := Yq (fun hd j h hj => by
     by_cases e : j = k
     ·subst e; rw [← hbyte]; exact hd
     ·exact Hall.out j h (by omega))
    generalize capV 8 ((l.drop 1).take k) = c at *
    generalize dig s[1 + k] = d at *
    have e1 : (((1 + k : Nat) : Int)) = (1 : Int) + k := by push_cast; rfl
    by_cases hd : d < 8
    ·have hdz : ¬ ((8 : Int) ≤ (d : Int)) := by omega
     have HN := Yq (Hnext.out hd)
     clear N1k hbyte Hnext
     by_cases hc : c ≤ 2147483647
     ·rw [if_pos hc] at hcs
      have hcz : (c : Int) ≤ 2147483647 := by omega
      have Hcs := Yq hcs
      clear hcs
      go_wp2_with (go_at_call 56; (with_reducible refine (HD.out _).mono ?_); rintro e w1 ⟨rfl, rfl⟩)
      go_round
      case rel => exact ⟨k + 1, by go_num, by omega, by rw [Hcs.out]; go_num, HN.out⟩
      case measure => simp [intOf]; omega
     ·rw [if_neg hc] at hcs
      have hcz : ¬ ((c : Int) ≤ 2147483647) := by omega
      have Hcs := Yq hcs
      clear hcs
      go_wp2_with (go_at_call 56; (with_reducible refine (HD.out _).mono ?_); rintro e w1 ⟨rfl, rfl⟩)
      go_round
      case rel => exact ⟨k + 1, by go_num, by omega, by rw [Hcs.out], HN.out⟩
      case measure => simp [intOf]; omega
    ·have hdz : (8 : Int) ≤ (d : Int) := by omega
     have Hend := Yq (N1k hd)
     clear N1k hbyte Hnext hcs
     go_wp2_with (go_at_call 56; (with_reducible refine (HD.out _).mono ?_); rintro e w1 ⟨rfl, rfl⟩)
     go_ret2
     exact ⟨numret Hend.out, rfl⟩
   ·have hbad : ¬ (((1 + k : Nat) : Int) < (s.size : Int)) := by omega
    have hfull : (l.drop 1).take k = l.drop 1 := List.take_of_length_le (by rw [Hdl.out]; omega)
    have N2' := N2.out Hne.out (fun j h => Hall.out j h (by have := Hdl.out; omega))
    rw [hfull] at hcle ⊢
    generalize capV 8 (l.drop 1) = c at *
    by_cases hc : 2147483647 < c
    ·have hcz : (2147483647 : Int) < (c : Int) := by omega
     have Hend := Yq (N2'.1 hc)
     clear N2' hfull
     go_wp2_with fail
     go_ret2
     exact ⟨numret Hend.out, rfl⟩
    ·have hcz : ¬ ((2147483647 : Int) < (c : Int)) := by omega
     have Hend := Yq (N2'.2 (by omega))
     clear N2' hfull
     go_wp2_with fail
     go_ret2
     exact ⟨numret Hend.out, rfl⟩
theorem rnumber_any (s : ByteArray) (w : World) (hs : s.size ≤ 5000) :
  Calls Tryz.prog 33 #[.string s] w fun e w' => e = .returned (.tuple #[.int .i64 (rnumV (Lx.number s.data.toList)).1, .int .i64 (rnumV (Lx.number s.data.toList)).2]) ∧ w = w' := by
 by_cases h1 : 1 < s.size
 ·cases h48 : ((s[0].toNat : Int) == 48)
  ·refine rnumber_ten s w hs (fun e => byte_ne (b := s[0]) (k := 48) h48 ?_)
   have := e.2
   rw [List.head?_eq_getElem?, List.getElem?_eq_getElem (by rw [len_data]; omega)] at this
   exact Option.some.inj this
  ·cases hx1 : ((s[1].toNat : Int) == 120)
   ·cases hx2 : ((s[1].toNat : Int) == 88)
    ·exact rnumber_oct s w hs h1 h48 hx1 hx2
    ·exact rnumber_hex s w hs h1 h48 (.inr ⟨hx1, hx2⟩)
   ·exact rnumber_hex s w hs h1 h48 (.inl hx1)
 ·exact rnumber_ten s w hs (fun e => h1 e.1)
end Go.Proofs.YtpcfdngnmigkfaaGreatDoor
