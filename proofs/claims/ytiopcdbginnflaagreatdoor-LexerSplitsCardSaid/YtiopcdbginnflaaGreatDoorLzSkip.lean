/- The reference redlineref07, walked: gaps and remarks. -/
import Derived.Test.YtiopcdbginnflaaGreatDoorLzBytes
import Derived.Lib.Hide
namespace Go.Proofs.YtiopcdbginnflaaGreatDoor
open Go.RowKit
set_option linter.unusedVariables false
set_option linter.unusedSimpArgs false

theorem drop_at (l : Lx.Bs) {k : Nat} (h : k < l.length) : l.drop k = l[k] :: l.drop (k + 1) := List.drop_eq_getElem_cons h
theorem two_at (l : Lx.Bs) {k : Nat} (h : k + 1 < l.length) : (l.drop k).take 2 = [l[k], l[k + 1]] := by
  rw [drop_at l (by omega), drop_at l h]; rfl

theorem two_eq (s : ByteArray) (j : Nat) (a b : UInt8) : ((s.extract j (j + 2)).toList == [a, b]) = decide ((s.data.toList.drop j).take 2 = [a, b]) := by
  rw [Lib.toList_data, extract_mid, toB_list, show j + 2 - j = 2 by omega, Bool.eq_iff_iff, beq_iff_eq, decide_eq_true_iff]
theorem idx2_short {l : Lx.Bs} (h : l.length ≤ 1) : Lx.idx2 l = none := by
  match l, h with
  | [], _ => rfl
  | [b], _ => rw [Lx.idx2, if_neg (by simp)]; rfl
theorem idx2_hit {l : Lx.Bs} (h : l.take 2 = [42, 47]) : Lx.idx2 l = some 0 := by
  match l, h with
  | a :: b :: r, h =>
    simp only [List.take_succ_cons, List.take_zero, List.cons.injEq, and_true] at h
    rw [Lx.idx2, if_pos ⟨h.1, by rw [h.2]; rfl⟩]
theorem idx2_miss {l : Lx.Bs} (h : l.take 2 ≠ [42, 47]) (hl : 1 < l.length) : Lx.idx2 l = (Lx.idx2 (l.drop 1)).map (· + 1) := by
  match l, h, hl with
  | a :: b :: r, h, _ =>
    rw [Lx.idx2, if_neg (fun e => h (by rw [e.1]; have := e.2; rw [List.head?_cons, Option.some.injEq] at this; rw [this]; rfl))]
    rfl
theorem skret {k0 j : Nat} {b : Bool} {g : Nat × Bool} (h : g = (j - k0, b)) (hk : k0 ≤ j) : Ending.returned (.tuple #[.int .i64 (j : Nat), .bool b]) = .returned (.tuple #[.int .i64 (k0 + g.1 : Nat), .bool g.2]) := by
  subst h
  simp only
  rw [show k0 + (j - k0) = j by omega]

set_option maxHeartbeats 2000000 in
set_option maxRecDepth 100000 in
theorem rskip_any (s : ByteArray) (k0 : Nat) (w : World) (hk0 : k0 ≤ s.size) (hs : s.size ≤ 5000) :
    Calls Tryz.prog 13 #[.string s, .int .i64 k0] w fun e w' => e = .returned (.tuple #[.int .i64 (k0 + (Lx.gapN (s.data.toList.drop k0)).1 : Nat), .bool (Lx.gapN (s.data.toList.drop k0)).2]) ∧ w = w' := by
  obtain ⟨l, hl⟩ : ∃ l, l = s.data.toList := ⟨_, rfl⟩
  have Hl := Lib.hid hl
  have Hll := Lib.hid (show l.length = s.size by rw [hl, len_data])
  rw [← hl]
  clear hl
  go_enter Tryz.func13, Tryz.ntmps13
  go_wp2
  go_loop [1] (fun i => ∃ j : Nat, i = .int .i64 j ∧ k0 ≤ j ∧ j ≤ s.size ∧ Lx.gapN (l.drop k0) = ((Lx.gapN (l.drop j)).1 + (j - k0), (Lx.gapN (l.drop j)).2)) (fun i => s.size - (intOf i).toNat)
  case atStart => exact ⟨k0, rfl, Nat.le_refl _, hk0, by simp⟩
  case round =>
    obtain ⟨j, rfl, hk, hj, hgap⟩ := hrel
    have Hgap := Lib.hid hgap
    clear hgap
    by_cases hlt : j < s.size
    · have hjl : j < l.length := by rw [Hll.out]; exact hlt
      have hbyte : s[j] = l[j] := by have := Hl.out; subst this; rfl
      have hdrop := drop_at l hjl
      rw [← hbyte] at hdrop
      by_cases hg : Lx.isGap s[j] = true
      · have Hnx : Hid (Lx.gapN (l.drop k0) = ((Lx.gapN (l.drop (j + 1))).1 + (j + 1 - k0), (Lx.gapN (l.drop (j + 1))).2)) := Lib.hid (by
          rw [Hgap.out, hdrop, Lx.gapN_cons hg]; simp only [Prod.mk.injEq, and_true]; omega)
        have hsm : (s[j].toNat : Int) = 32 ∨ (s[j].toNat : Int) = 9 ∨ (s[j].toNat : Int) = 13 ∨ (s[j].toNat : Int) = 10 := by
          have := all256 (fun b => !(Lx.isGap b) || decide ((b.toNat : Int) = 32 ∨ (b.toNat : Int) = 9 ∨ (b.toNat : Int) = 13 ∨ (b.toNat : Int) = 10)) (by decide +kernel) s[j]
          rw [hg] at this; exact of_decide_eq_true this
        clear hdrop hbyte hg
        rcases hsm with e | e | e | e
        all_goals
          go_wp2
          go_round
          case rel => exact ⟨j + 1, by go_num, by omega, by omega, Hnx.out⟩
          case measure => simp [intOf]; omega
      · have hgf : Lx.isGap s[j] = false := by simpa using hg
        have hsm : ((s[j].toNat : Int) == 32) = false ∧ ((s[j].toNat : Int) == 9) = false ∧ ((s[j].toNat : Int) == 13) = false ∧ ((s[j].toNat : Int) == 10) = false := by
          have := all256 (fun b => (Lx.isGap b) || (!((b.toNat : Int) == 32) && !((b.toNat : Int) == 9) && !((b.toNat : Int) == 13) && !((b.toNat : Int) == 10))) (by decide +kernel) s[j]
          rw [hgf] at this; simp only [Bool.false_or, Bool.and_eq_true, Bool.not_eq_true', and_assoc] at this; exact this
        obtain ⟨n1, n2, n3, n4⟩ := hsm
        have hrun0 : Lx.run Lx.isGap (l.drop j) = 0 := by rw [hdrop, Lx.run_cons, if_neg hg]
        have hrem := gap1_rem _ hrun0
        by_cases h2 : j + 1 < s.size
        · have hjl2 : j + 1 < l.length := by rw [Hll.out]; exact h2
          have hbyte2 : s[j + 1] = l[j + 1] := by have := Hl.out; subst this; rfl
          have htake := two_at l (k := j) hjl2
          rw [← hbyte, ← hbyte2] at htake
          have H47 := two_eq s j 47 47
          have H42 := two_eq s j 47 42
          rw [← Hl.out] at H47 H42
          have Htake := Lib.hid htake
          clear htake hbyte hbyte2 hdrop hg hgf
          by_cases h47 : (l.drop j).take 2 = [47, 47]
          · rw [decide_eq_true h47] at H47
            have Hrun : Hid (Lx.gap1 (l.drop j) = some (some (Lx.run (· != 10) (l.drop j)))) := Lib.hid (by rw [hrem]; unfold rem1; rw [if_pos h47])
            have Hpos := Lib.hid (Lx.gap1_pos Hrun.out).1
            clear H42 h47 hrem hrun0
            go_wp2_with fail
            go_loop [1] (fun i => ∃ m : Nat, i = .int .i64 m ∧ j ≤ m ∧ m ≤ s.size ∧ Lx.run (· != 10) (l.drop j) = Lx.run (· != 10) (l.drop m) + (m - j)) (fun i => s.size - (intOf i).toNat)
            case atStart => exact ⟨j, rfl, Nat.le_refl _, hj, by simp⟩
            case round =>
              obtain ⟨m, rfl, hjm, hm, hr⟩ := hrel
              have Hr := Lib.hid hr
              clear hr
              have Hnx : Hid (Lx.run (· != 10) (l.drop m) = 0 → Lx.gapN (l.drop k0) = ((Lx.gapN (l.drop m)).1 + (m - k0), (Lx.gapN (l.drop m)).2) ∧ j < m) := Lib.hid (fun h0 => by
                have hp := Hpos.out
                rw [Hr.out, h0, Nat.zero_add] at hp
                refine ⟨?_, by omega⟩
                rw [Hgap.out, Lx.gapN_some Hrun.out, List.drop_drop, Hr.out, h0]
                rw [show j + (0 + (m - j)) = m by omega]
                simp only [Prod.mk.injEq, and_true]; omega)
              by_cases hms : m < s.size
              · have hml : m < l.length := by rw [Hll.out]; exact hms
                have hb : s[m] = l[m] := by have := Hl.out; subst this; rfl
                have hd := drop_at l hml
                rw [← hb] at hd
                by_cases h10 : s[m] = 10
                · have h10' : ((s[m].toNat : Int) == 10) = true := by rw [h10]; rfl
                  have hN := Hnx.out (by rw [hd, Lx.run_cons, h10]; rfl)
                  have HN := Lib.hid hN.1
                  have hjm' := hN.2
                  clear hN hd hb h10
                  go_wp2_with fail
                  go_round
                  case rel => exact ⟨m, rfl, by omega, by omega, HN.out⟩
                  case measure => simp [intOf]; omega
                · have h10' : ((s[m].toNat : Int) == 10) = false := by
                    rw [beq_eq_false_iff_ne]; intro e; exact h10 (UInt8.toNat_inj.1 (by show s[m].toNat = 10; omega))
                  have HN : Hid (Lx.run (· != 10) (l.drop j) = Lx.run (· != 10) (l.drop (m + 1)) + (m + 1 - j)) := Lib.hid (by
                    rw [Hr.out, hd, Lx.run_cons, if_pos (by rw [bne_iff_ne]; exact h10)]; omega)
                  clear hd hb h10
                  go_wp2_with fail
                  go_round
                  case rel => exact ⟨m + 1, by go_num, by omega, by omega, HN.out⟩
                  case measure => simp [intOf]; omega
              · have hN := Hnx.out (by rw [List.drop_of_length_le (by rw [Hll.out]; omega)]; rfl)
                have HN := Lib.hid hN.1
                have hjm' := hN.2
                clear hN
                go_wp2_with fail
                go_round
                case rel => exact ⟨m, rfl, by omega, by omega, HN.out⟩
                case measure => simp [intOf]; omega
          · rw [decide_eq_false h47] at H47
            by_cases h42 : (l.drop j).take 2 = [47, 42]
            · rw [decide_eq_true h42] at H42
              have Hrem : Hid (Lx.gap1 (l.drop j) = some ((Lx.idx2 (l.drop (j + 2))).map (· + 4))) := Lib.hid (by rw [hrem]; unfold rem1; rw [if_neg h47, if_pos h42, List.drop_drop])
              clear h47 h42 hrem hrun0
              go_wp2_with fail
              go_loop [8] (fun i => ∃ m : Nat, i = .int .i64 m ∧ j + 2 ≤ m ∧ m ≤ s.size ∧ Lx.idx2 (l.drop (j + 2)) = (Lx.idx2 (l.drop m)).map (· + (m - (j + 2)))) (fun i => s.size - (intOf i).toNat)
              case atStart => exact ⟨j + 2, by go_num, Nat.le_refl _, by omega, by cases Lx.idx2 (l.drop (j + 2)) <;> simp⟩
              case round =>
                obtain ⟨m, rfl, hjm, hm, hr⟩ := hrel
                have Hr := Lib.hid hr
                clear hr
                by_cases hms : m + 1 < s.size
                · have hml : m + 1 < l.length := by rw [Hll.out]; exact hms
                  have H4 := two_eq s m 42 47
                  rw [← Hl.out] at H4
                  by_cases hh : (l.drop m).take 2 = [42, 47]
                  · rw [decide_eq_true hh] at H4
                    have Hnx : Hid (Lx.gapN (l.drop k0) = ((Lx.gapN (l.drop (m + 2))).1 + (m + 2 - k0), (Lx.gapN (l.drop (m + 2))).2)) := Lib.hid (by
                      have h1 : Lx.gap1 (l.drop j) = some (some (m + 2 - j)) := by
                        rw [Hrem.out, Hr.out, idx2_hit hh]; simp; omega
                      rw [Hgap.out, Lx.gapN_some h1, List.drop_drop, show j + (m + 2 - j) = m + 2 by omega]
                      simp only [Prod.mk.injEq, and_true]; omega)
                    clear hh
                    go_wp2_with fail
                    go_round
                    case rel => exact ⟨m + 2, by go_num, by omega, by omega, Hnx.out⟩
                    case measure => simp [intOf]; omega
                  · rw [decide_eq_false hh] at H4
                    have Hnx : Hid (Lx.idx2 (l.drop (j + 2)) = (Lx.idx2 (l.drop (m + 1))).map (· + (m + 1 - (j + 2)))) := Lib.hid (by
                      rw [Hr.out, idx2_miss hh (by rw [List.length_drop]; omega), List.drop_drop]
                      cases Lx.idx2 (l.drop (m + 1)) with
                      | none => rfl
                      | some y => simp; omega)
                    clear hh
                    go_wp2_with fail
                    go_round
                    case rel => exact ⟨m + 1, by go_num, by omega, by omega, Hnx.out⟩
                    case measure => simp [intOf]; omega
                · have hbad : ¬ ((m : Int) + 1 < (s.size : Int)) := by omega
                  have hbad2 : (s.size : Int) ≤ (m : Int) + 1 := by omega
                  have Hend : Hid (Lx.gapN (l.drop k0) = (j - k0, false)) := Lib.hid (by
                    have h1 : Lx.gap1 (l.drop j) = some none := by
                      rw [Hrem.out, Hr.out, idx2_short (by rw [List.length_drop, Hll.out]; omega)]; rfl
                    rw [Hgap.out, Lx.gapN_bad h1]; simp)
                  go_wp2_with fail
                  go_ret2
                  exact ⟨skret Hend.out hk, rfl⟩
            · rw [decide_eq_false h42] at H42
              have Hend : Hid (Lx.gapN (l.drop k0) = (j - k0, true)) := Lib.hid (by
                have : rem1 (l.drop j) = none := by
                  unfold rem1
                  rw [if_neg h47, if_neg h42]
                rw [Hgap.out, Lx.gapN_none (hrem.trans this)]; simp)
              clear h47 h42 hrem hrun0
              go_wp2
              go_ret2
              exact ⟨skret Hend.out hk, rfl⟩
        · have hbad : ¬ ((j : Int) + 1 < (s.size : Int)) := by omega
          have Hend : Hid (Lx.gapN (l.drop k0) = (j - k0, true)) := Lib.hid (by
            have : rem1 (l.drop j) = none := by
              unfold rem1
              have hle : ((l.drop j).take 2).length ≤ 1 := by rw [List.length_take, List.length_drop, Hll.out]; omega
              rw [if_neg (fun e => by rw [e] at hle; simp at hle), if_neg (fun e => by rw [e] at hle; simp at hle)]
            rw [Hgap.out, Lx.gapN_none (hrem.trans this)]; simp)
          clear hrun0 hrem hdrop hbyte hg hgf
          go_wp2
          go_ret2
          exact ⟨skret Hend.out hk, rfl⟩
    · have Hend : Hid (Lx.gapN (l.drop k0) = (j - k0, true)) := Lib.hid (by
        rw [Hgap.out, List.drop_of_length_le (by rw [Hll.out]; omega), Lx.gapN_none (by decide)]; simp)
      have hbad : ¬ ((j : Int) < (s.size : Int)) := by omega
      clear hlt
      go_wp2
      go_ret2
      exact ⟨skret Hend.out hk, rfl⟩

end Go.Proofs.YtiopcdbginnflaaGreatDoor
