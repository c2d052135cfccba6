/- The reference redlineref07, walked: what a byte is; is a text a word; a place's line and column. -/
import Derived.Test.YtiopcdbginnflaaGreatDoorLxIdent
namespace Go.Proofs.YtiopcdbginnflaaGreatDoor
open Go.RowKit
set_option linter.unusedVariables false
set_option linter.unusedSimpArgs false

set_option maxHeartbeats 1000000 in
theorem rletter_any (b : UInt8) (w : World) : Calls Tryz.prog 15 #[.int .u8 b.toNat] w fun e w' => e = .returned (.bool (Lx.letter b)) ∧ w = w' := by
  rw [letter_i]
  generalize (b.toNat : Int) = n
  by_cases h1 : 97 ≤ n <;> by_cases h2 : n ≤ 122 <;> by_cases h3 : 65 ≤ n <;> by_cases h4 : n ≤ 90 <;> by_cases h5 : n = 95
  all_goals first
    | (exfalso; omega)
    | (first
        | (subst h5
           go_enter Tryz.func15, Tryz.ntmps15
           go_wp2
           go_ret
           exact ⟨rfl, rfl⟩)
        | (have h6 : (n == 95) = false := beq_eq_false_iff_ne.2 h5
           clear h5
           go_enter Tryz.func15, Tryz.ntmps15
           go_wp2
           go_ret
           exact ⟨ret_bool (by simp [h1, h2, h3, h4, h6]), rfl⟩))

set_option maxHeartbeats 1000000 in
theorem rfigure_any (b : UInt8) (w : World) : Calls Tryz.prog 16 #[.int .u8 b.toNat] w fun e w' => e = .returned (.bool (Lx.figure b)) ∧ w = w' := by
  rw [figure_i]
  generalize (b.toNat : Int) = n
  by_cases h1 : 48 ≤ n <;> by_cases h2 : n ≤ 57
  all_goals
    go_enter Tryz.func16, Tryz.ntmps16
    go_wp2
    go_ret
    exact ⟨ret_bool (by simp [h1, h2]), rfl⟩

/-- the reference's digits -/
def dig (b : UInt8) : Nat := if Lx.digit b < 16 then Lx.digit b else 99
theorem dig_i (b : UInt8) : (dig b : Int) = if 48 ≤ (b.toNat : Int) ∧ (b.toNat : Int) ≤ 57 then (b.toNat : Int) - 48 else if 97 ≤ (b.toNat : Int) ∧ (b.toNat : Int) ≤ 102 then (b.toNat : Int) - 97 + 10 else if 65 ≤ (b.toNat : Int) ∧ (b.toNat : Int) ≤ 70 then (b.toNat : Int) - 65 + 10 else 99 := by
  have := all256 (fun b => decide ((dig b : Int) = if 48 ≤ (b.toNat : Int) ∧ (b.toNat : Int) ≤ 57 then (b.toNat : Int) - 48 else if 97 ≤ (b.toNat : Int) ∧ (b.toNat : Int) ≤ 102 then (b.toNat : Int) - 97 + 10 else if 65 ≤ (b.toNat : Int) ∧ (b.toNat : Int) ≤ 70 then (b.toNat : Int) - 65 + 10 else 99)) (by decide +kernel) b
  simpa using this

set_option maxHeartbeats 1000000 in
theorem rdigit_any (b : UInt8) (w : World) : Calls Tryz.prog 28 #[.int .u8 b.toNat] w fun e w' => e = .returned (.int .i64 (dig b : Nat)) ∧ w = w' := by
  have HF := Lib.hid (fun w0 => rfigure_any b w0)
  rw [figure_i] at HF
  rw [dig_i]
  have h0 : 0 ≤ (b.toNat : Int) := by omega
  have h255 : (b.toNat : Int) ≤ 255 := by have := b.toNat_lt; omega
  generalize (b.toNat : Int) = n at *
  by_cases h1 : 48 ≤ n ∧ n ≤ 57
  · rw [if_pos h1]
    rw [show (decide (48 ≤ n) && decide (n ≤ 57)) = true by simp [h1]] at HF
    have ha := h1.1; have hb := h1.2
    clear h1
    go_enter Tryz.func28, Tryz.ntmps28
    go_wp2_with (go_at_call 16; (with_reducible refine (HF.out _).mono ?_); rintro e w1 ⟨rfl, rfl⟩)
    go_ret
    exact ⟨ret_int (by omega), rfl⟩
  · rw [if_neg h1]
    rw [show (decide (48 ≤ n) && decide (n ≤ 57)) = false by simp; omega] at HF
    clear h1
    by_cases h2 : 97 ≤ n <;> by_cases h3 : n ≤ 102 <;> by_cases h4 : 65 ≤ n <;> by_cases h5 : n ≤ 70
    all_goals first
      | (exfalso; omega)
      | (go_enter Tryz.func28, Tryz.ntmps28
         go_wp2_with (go_at_call 16; (with_reducible refine (HF.out _).mono ?_); rintro e w1 ⟨rfl, rfl⟩)
         go_ret
         exact ⟨ret_int (by simp only [h2, h3, h4, h5, and_self, and_true, and_false, true_and, false_and, if_true, if_false] <;> omega), rfl⟩)

theorem inner_or (b : UInt8) : Lx.inner b = (Lx.letter b || Lx.figure b) := rfl
theorem letter_not_figure (b : UInt8) (h : Lx.figure b = true) : Lx.letter b = false := by
  have := all256 (fun b => !(Lx.figure b && Lx.letter b)) (by decide +kernel) b
  rw [h] at this; simpa using this
theorem letter_of_inner (b : UInt8) (h : Lx.inner b = true) (h2 : Lx.figure b = false) : Lx.letter b = true := by
  rw [inner_or, h2, Bool.or_false] at h; exact h
theorem run_alls {p : UInt8 → Bool} : ∀ (l : Lx.Bs), Lx.run p l = l.length ↔ ∀ k (h : k < l.length), p l[k] = true
  | [] => by simp [Lx.run]
  | b :: r => by
    rw [Lx.run_cons]
    constructor
    · intro h k hk
      split at h
      · cases k with
        | zero => assumption
        | succ k => simpa using (run_alls r).1 (by simpa using h) k (by simpa using hk)
      · simp at h
    · intro h
      have h0 := h 0 (by simp)
      simp only [List.getElem_cons_zero] at h0
      rw [if_pos h0, List.length_cons, (run_alls r).2 fun k hk => by have := h (k + 1) (by simpa using hk); rw [List.getElem_cons_succ] at this; exact this]

set_option maxHeartbeats 2000000 in
theorem rident_any (s : ByteArray) (w : World) (hs : s.size ≤ maxLen) :
    Calls Tryz.prog 9 #[.string s] w fun e w' => e = .returned (.bool (Lx.ident s.data.toList)) ∧ w = w' := by
  unfold maxLen at hs
  by_cases h0 : s.size = 0
  · have hnil : s.data.toList = [] := List.eq_nil_of_length_eq_zero (by rw [len_data]; exact h0)
    have hz : ((s.size : Int) == 0) = true := by rw [h0]; rfl
    rw [hnil]
    clear hnil h0
    go_enter Tryz.func9, Tryz.ntmps9
    go_wp2
    go_ret
    exact ⟨rfl, rfl⟩
  · have hz : ((s.size : Int) == 0) = false := by rw [beq_eq_false_iff_ne]; omega
    have hp : 0 < s.size := by omega
    have hh : s.data.toList = s[0] :: s.data.toList.drop 1 := by
      have h1 : 0 < s.data.toList.length := by rw [len_data]; exact hp
      have h2 := List.drop_eq_getElem_cons h1
      rw [List.drop_zero] at h2
      exact h2
    have hid : Lx.ident s.data.toList = (decide (s.size ≤ 40) && Lx.letter s[0] && decide (Lx.run Lx.inner s.data.toList = s.size)) := by
      have h2 : Lx.ident (s[0] :: s.data.toList.drop 1) = (decide ((s[0] :: s.data.toList.drop 1).length ≤ 40) && Lx.letter s[0] && decide (Lx.run Lx.inner (s[0] :: s.data.toList.drop 1) = (s[0] :: s.data.toList.drop 1).length)) := rfl
      rw [← hh, len_data] at h2
      exact h2
    by_cases h40 : s.size ≤ 40
    · have h40z : decide ((40 : Int) < (s.size : Int)) = false := decide_eq_false (by omega)
      have HF := Lib.hid (fun w0 => rfigure_any s[0] w0)
      by_cases hf : Lx.figure s[0] = true
      · rw [hf] at HF
        have e : Lx.ident s.data.toList = false := by rw [hid, letter_not_figure _ hf]; simp
        rw [e]
        clear hh hid e hf
        go_enter Tryz.func9, Tryz.ntmps9
        go_wp2_with (go_at_call 16; (with_reducible refine (HF.out _).mono ?_); rintro e w1 ⟨rfl, rfl⟩)
        go_ret
        exact ⟨rfl, rfl⟩
      · have hff : Lx.figure s[0] = false := by simpa using hf
        rw [hff] at HF
        have hrun : Lx.run Lx.inner s.data.toList = s.size ↔ ∀ k (h : k < s.data.toList.length), Lx.inner s.data.toList[k] = true := by
          rw [← len_data s]; exact run_alls _
        have Hrun := Lib.hid hrun
        have Hlen := Lib.hid (len_data s)
        have H0 : Hid (Lx.run Lx.inner s.data.toList = s.size → Lx.ident s.data.toList = true) := Lib.hid (fun hr => by
          have hi := (Hrun.out.1 hr) 0 (by rw [Hlen.out]; exact hp)
          have hl : Lx.letter s[0] = true := letter_of_inner s[0] hi hff
          rw [hid, hl, hr]; simp [h40])
        have H1 : Hid (Lx.run Lx.inner s.data.toList ≠ s.size → Lx.ident s.data.toList = false) := Lib.hid (fun hr => by
          rw [hid]; simp [hr])
        clear hh hid hf hff hrun
        go_enter Tryz.func9, Tryz.ntmps9
        go_wp2_with (go_at_call 16; (with_reducible refine (HF.out _).mono ?_); rintro e w1 ⟨rfl, rfl⟩)
        go_loop [3] (fun i => ∃ k : Nat, i = .int .i64 k ∧ ∀ j (h : j < s.data.toList.length), j < k → Lx.inner s.data.toList[j] = true) (fun i => s.size - (intOf i).toNat)
        case atStart => exact ⟨0, rfl, fun j _ h => absurd h (by omega)⟩
        case round =>
          obtain ⟨k, rfl, hk⟩ := hrel
          have Hk := Lib.hid hk
          clear hk
          by_cases hlt : k < s.size
          · have HL := Lib.hid (fun w0 => rletter_any s[k] w0)
            have HG := Lib.hid (fun w0 => rfigure_any s[k] w0)
            have hkl : k < s.data.toList.length := by rw [Hlen.out]; exact hlt
            have Hin : Hid (Lx.inner s.data.toList[k] = (Lx.letter s[k] || Lx.figure s[k])) := Lib.hid rfl
            generalize Lx.letter s[k] = a at *
            generalize Lx.figure s[k] = b at *
            have hnx : (a || b) = true → ∀ j (h : j < s.data.toList.length), j < k + 1 → Lx.inner s.data.toList[j] = true := fun hab j h hj => by
              by_cases e : j = k
              · subst e; rw [Hin.out]; exact hab
              · exact Hk.out j h (by omega)
            have hbad : (a || b) = false → Lx.run Lx.inner s.data.toList ≠ s.size := fun hab hr => by
              have := Hrun.out.1 hr k hkl
              rw [Hin.out, hab] at this; cases this
            have Hnx := Lib.hid hnx; have Hbad := Lib.hid hbad
            clear hnx hbad
            cases a <;> cases b
            all_goals
              go_wp2_with (first
                | (go_at_call 15; (with_reducible refine (HL.out _).mono ?_); rintro e w1 ⟨rfl, rfl⟩)
                | (go_at_call 16; (with_reducible refine (HG.out _).mono ?_); rintro e w1 ⟨rfl, rfl⟩))
            · go_ret
              exact ⟨ret_bool (H1.out (Hbad.out rfl)).symm, rfl⟩
            all_goals
              go_round
              case rel => exact ⟨k + 1, by go_num, Hnx.out rfl⟩
              case measure => simp [intOf]; omega
          · have Hend := Lib.hid (H0.out (Hrun.out.2 fun j h => Hk.out j h (by have := Hlen.out; omega)))
            go_wp2
            go_ret
            exact ⟨ret_bool Hend.out.symm, rfl⟩
    · have h40z : (40 : Int) < (s.size : Int) := by omega
      rw [hid, show decide (s.size ≤ 40) = false from decide_eq_false h40]
      clear h40 hh hid
      go_enter Tryz.func9, Tryz.ntmps9
      go_wp2
      go_ret
      exact ⟨rfl, rfl⟩

set_option maxHeartbeats 2000000 in
theorem rplace_any (s : ByteArray) (n : Nat) (w : World) (hn : n ≤ s.size) (hs : s.size ≤ 100000) :
    Calls Tryz.prog 14 #[.string s, .int .i64 n] w fun e w' => e = .returned (.tuple #[.int .i64 (Lx.adv (1, 1) (s.data.toList.take n)).1, .int .i64 (Lx.adv (1, 1) (s.data.toList.take n)).2]) ∧ w = w' := by
  obtain ⟨l, hl⟩ : ∃ l, l = s.data.toList := ⟨_, rfl⟩
  have Hl := Lib.hid hl
  have Hll := Lib.hid (show l.length = s.size by rw [hl, len_data])
  rw [← hl]
  clear hl
  go_enter Tryz.func14, Tryz.ntmps14
  go_wp2
  go_loop [6, 7, 8] (fun a b i => ∃ k : Nat, k ≤ n ∧ i = .int .i64 k ∧ a = .int .i64 (Lx.adv (1, 1) (l.take k)).1 ∧ b = .int .i64 (Lx.adv (1, 1) (l.take k)).2) (fun _ _ i => n - (intOf i).toNat)
  case atStart => exact ⟨0, Nat.zero_le _, rfl, by simp [Lx.adv], by simp [Lx.adv]⟩
  case round =>
    obtain ⟨k, hk, rfl, rfl, rfl⟩ := hrel
    have hadv := Lx.adv_le (1, 1) (l.take k)
    rw [List.length_take] at hadv
    by_cases hlt : k < n
    · have hks : k < s.size := by omega
      have hkl : k < l.length := by rw [Hll.out]; exact hks
      have hnext := Lx.adv_take_succ (1, 1) l hkl
      have hbyte : s[k] = l[k] := by have := Hl.out; subst this; rfl
      rw [← hbyte] at hnext
      generalize Lx.adv (1, 1) (l.take k) = q at *
      obtain ⟨q1, q2⟩ := q
      simp only at hadv hnext ⊢
      obtain ⟨hq1, hq2⟩ := hadv
      by_cases h10 : s[k] = 10
      · rw [if_pos h10] at hnext
        have Hnext := Lib.hid hnext
        have h10' : ((s[k].toNat : Int) == 10) = true := by rw [h10]; rfl
        clear hnext h10 hbyte
        go_wp2
        go_round
        case rel => exact ⟨k + 1, by omega, by go_num, by rw [Hnext.out]; go_num, by rw [Hnext.out]; go_num⟩
        case measure => simp [intOf]; omega
      · rw [if_neg h10] at hnext
        have Hnext := Lib.hid hnext
        have h10' : ((s[k].toNat : Int) == 10) = false := by
          rw [beq_eq_false_iff_ne]; intro e; exact h10 (UInt8.toNat_inj.1 (by show s[k].toNat = 10; omega))
        clear hnext h10 hbyte
        go_wp2
        go_round
        case rel => exact ⟨k + 1, by omega, by go_num, by rw [Hnext.out], by rw [Hnext.out]; go_num⟩
        case measure => simp [intOf]; omega
    · have hkn : k = n := by omega
      subst hkn
      go_wp2
      go_ret2
      exact ⟨rfl, rfl⟩

end Go.Proofs.YtiopcdbginnflaaGreatDoor
