/- The reference redlineref07, walked: a number's text. (printed by gen_lznum.py) -/
import Derived.Test.YtiopcdbginnflaaGreatDoorLzSkip
namespace Go.Proofs.YtiopcdbginnflaaGreatDoor
open Go.RowKit
set_option linter.unusedVariables false
set_option linter.unusedSimpArgs false

/-- as the reference says: the value, the error's number -/
def rnumV : Lx.Res Nat → Nat × Nat
  | .bad n => (0, n)
  | .ok x => (x, 0)
/-- the reference's sum: it stands still once it is too great -/
def capF (base n : Nat) (b : UInt8) : Nat := if n ≤ 2147483647 then n * base + dig b else n
def capV (base : Nat) (l : Lx.Bs) : Nat := l.foldl (capF base) 0
theorem capV_succ (base : Nat) (l : Lx.Bs) {k : Nat} (h : k < l.length) : capV base (l.take (k + 1)) = capF base (capV base (l.take k)) l[k] := by
  unfold capV; rw [List.take_succ_eq_append_getElem h, List.foldl_append]; rfl
theorem dig_lt {base : Nat} {b : UInt8} (hb : base ≤ 16) : dig b < base ↔ Lx.digit b < base := by
  unfold dig; split <;> omega
theorem dig_eq {b : UInt8} (h : Lx.digit b < 16) : dig b = Lx.digit b := by unfold dig; rw [if_pos h]
theorem dig_le (b : UInt8) : dig b ≤ 99 := by unfold dig; split <;> omega
theorem capV_le (base : Nat) (hb : base ≤ 16) (l : Lx.Bs) : ∀ k, k ≤ l.length → capV base (l.take k) ≤ 34359738467
  | 0, _ => by simp [capV]
  | k + 1, h => by
    have ih := capV_le base hb l k (by omega)
    rw [capV_succ base l h]
    unfold capF
    split
    · rename_i h2
      have := dig_le l[k]
      have := Nat.mul_le_mul h2 hb
      omega
    · exact ih
theorem cap_fold (base : Nat) (hb : base ≤ 16) (hp : 0 < base) : ∀ (l : Lx.Bs) (n m : Nat), (∀ b ∈ l, Lx.digit b < base) → ((n ≤ 2147483647 ∧ n = m) ∨ (2147483647 < n ∧ 2147483647 < m)) →
    ((l.foldl (capF base) n ≤ 2147483647 ∧ l.foldl (capF base) n = l.foldl (fun n b => n * base + Lx.digit b) m) ∨ (2147483647 < l.foldl (capF base) n ∧ 2147483647 < l.foldl (fun n b => n * base + Lx.digit b) m))
  | [], n, m, _, h => h
  | b :: r, n, m, hd, h => by
    rw [List.foldl_cons, List.foldl_cons]
    refine cap_fold base hb hp r _ _ (fun c hc => hd c (List.mem_cons_of_mem _ hc)) ?_
    have hdb := hd b List.mem_cons_self
    have e := dig_eq (b := b) (by omega)
    unfold capF
    rcases h with ⟨h1, rfl⟩ | ⟨h1, h2⟩
    · rw [if_pos h1, e]; omega
    · rw [if_neg (by omega)]
      have := Nat.mul_le_mul_left m hp
      refine .inr ⟨h1, ?_⟩
      omega
theorem capV_value (base : Nat) (hb : base ≤ 16) (hp : 0 < base) (l : Lx.Bs) (hd : ∀ b ∈ l, Lx.digit b < base) : (capV base l ≤ 2147483647 ∧ capV base l = Lx.valueOf base l) ∨ (2147483647 < capV base l ∧ 2147483647 < Lx.valueOf base l) :=
  cap_fold base hb hp l 0 0 hd (.inl ⟨by omega, rfl⟩)
theorem run_mem {p : UInt8 → Bool} {l : Lx.Bs} (h : ∀ b ∈ l, p b = true) : Lx.run p l = l.length :=
  (run_alls l).2 fun k hk => h _ (List.getElem_mem hk)
theorem run_lt {p : UInt8 → Bool} {l : Lx.Bs} {k : Nat} (hk : k < l.length) (h : p l[k] = false) : Lx.run p l < l.length := by
  rcases Nat.lt_or_ge (Lx.run p l) l.length with h2 | h2
  · exact h2
  · have := (run_alls (p := p) l).1 (Nat.le_antisymm (Lx.run_le p l) h2) k hk
    rw [h] at this; cases this
/-- the answer, given base and digits -/
theorem rnumber_of {l ds : Lx.Bs} {base : Nat} (h : Lx.baseOf l = (base, ds)) (hb : base ≤ 16) (hp : 0 < base) :
    (ds = [] → Lx.number l = .bad 9) ∧ (∀ k (hk : k < ds.length), ¬ dig ds[k] < base → Lx.number l = .bad 9) ∧
    (ds ≠ [] → (∀ k (hk : k < ds.length), dig ds[k] < base) → (2147483647 < capV base ds → Lx.number l = .bad 1) ∧ (capV base ds ≤ 2147483647 → Lx.number l = .ok (capV base ds))) := by
  unfold Lx.number
  rw [h]
  simp only
  refine ⟨fun e => if_pos (.inl e), fun k hk hd => if_pos (.inr (run_lt hk (decide_eq_false (fun e => hd ((dig_lt hb).2 e))))), fun hne hd => ?_⟩
  have hm : ∀ b ∈ ds, Lx.digit b < base := fun b hbm => by
    obtain ⟨k, hk, rfl⟩ := List.mem_iff_getElem.1 hbm
    exact (dig_lt hb).1 (hd k hk)
  have hr : Lx.run (fun b => decide (Lx.digit b < base)) ds = ds.length := run_mem fun b hbm => decide_eq_true (hm b hbm)
  rw [if_neg (fun e => e.elim hne (fun e => by omega))]
  have hv := capV_value base hb hp ds hm
  constructor
  · intro h1
    rw [if_pos (by omega)]
  · intro h1
    rw [if_neg (by omega)]
    rcases hv with ⟨_, e⟩ | ⟨e, _⟩
    · rw [e]
    · omega
theorem take2_of {l : Lx.Bs} {a b : UInt8} (h0 : 1 < l.length) (ha : l[0] = a) (hb : l[1] = b) : l.take 2 = [a, b] := by
  match l, h0, ha, hb with
  | x :: y :: r, _, ha, hb => simp at ha hb; rw [ha, hb]; rfl
theorem base_hex {l : Lx.Bs} (h0 : 1 < l.length) (ha : l[0] = 48) (hb : l[1] = 120 ∨ l[1] = 88) : Lx.baseOf l = (16, l.drop 2) := by
  unfold Lx.baseOf
  rw [if_pos (hb.imp (take2_of h0 ha) (take2_of h0 ha))]
theorem base_oct {l : Lx.Bs} (h0 : 1 < l.length) (ha : l[0] = 48) (hb : ¬ (l[1] = 120 ∨ l[1] = 88)) : Lx.baseOf l = (8, l.drop 1) := by
  unfold Lx.baseOf
  match l, h0, ha, hb with
  | x :: y :: r, h0, ha, hb =>
    simp only [List.getElem_cons_zero, List.getElem_cons_succ] at ha hb
    rw [if_neg (fun e => hb (e.imp (fun e => by simpa using (List.cons.inj e).2) (fun e => by simpa using (List.cons.inj e).2))), if_pos ⟨h0, by rw [ha]; rfl⟩]
theorem base_ten {l : Lx.Bs} (h : ¬ (1 < l.length ∧ l.head? = some 48)) : Lx.baseOf l = (10, l) := by
  unfold Lx.baseOf
  have h2 : ∀ b : UInt8, ¬ l.take 2 = [48, b] := fun b e => h (by
    match l, e with
    | x :: y :: r, e => simp at e; exact ⟨by simp, by rw [e.1]; rfl⟩)
  rw [if_neg (fun e => e.elim (h2 _) (h2 _)), if_neg h]

theorem byte_eq {b k : UInt8} (h : ((b.toNat : Int) == (k.toNat : Int)) = true) : b = k := by
  rw [beq_iff_eq] at h; exact UInt8.toNat_inj.1 (by omega)
theorem byte_ne {b k : UInt8} (h : ((b.toNat : Int) == (k.toNat : Int)) = false) : ¬ b = k := by
  rw [beq_eq_false_iff_ne] at h; intro e; subst e; exact h rfl
theorem numret {l : Lx.Bs} {r : Lx.Res Nat} (h : Lx.number l = r) : Ending.returned (.tuple #[.int .i64 (rnumV r).1, .int .i64 (rnumV r).2]) = .returned (.tuple #[.int .i64 (rnumV (Lx.number l)).1, .int .i64 (rnumV (Lx.number l)).2]) := by rw [h]

set_option maxHeartbeats 2000000 in
set_option maxRecDepth 100000 in
theorem rnumber_ten (s : ByteArray) (w : World) (hs : s.size ≤ 5000) (h10 : ¬ (1 < s.size ∧ s.data.toList.head? = some 48)) :
    Calls Tryz.prog 17 #[.string s] w fun e w' => e = .returned (.tuple #[.int .i64 (rnumV (Lx.number s.data.toList)).1, .int .i64 (rnumV (Lx.number s.data.toList)).2]) ∧ w = w' := by
  have hbase := base_ten (l := s.data.toList) (by rw [len_data]; exact h10)
  have h1z : ¬ ((1 : Int) < (s.size : Int)) ∨ ∃ h : 1 < s.size, ((s[0].toNat : Int) == 48) = false := by
    by_cases h1 : 1 < s.size
    · refine .inr ⟨h1, ?_⟩
      rw [beq_eq_false_iff_ne]
      intro e
      refine h10 ⟨h1, ?_⟩
      rw [List.head?_eq_getElem?, List.getElem?_eq_getElem (by rw [len_data]; omega)]
      exact congrArg some (UInt8.toNat_inj.1 (by show s[0].toNat = 48; omega))
    · exact .inl (by omega)
  clear h10
  rcases h1z with h1z | ⟨hp, h48⟩
  all_goals
    obtain ⟨l, hl⟩ : ∃ l, l = s.data.toList := ⟨_, rfl⟩
    have Hl := Lib.hid hl
    have Hll := Lib.hid (show l.length = s.size by rw [hl, len_data])
    rw [← hl] at hbase ⊢
    clear hl
    obtain ⟨n0, n1, n2⟩ := rnumber_of hbase (by decide) (by decide)
    have N0 := Lib.hid n0; have N1 := Lib.hid n1; have N2 := Lib.hid n2
    have hdl : (l).length = s.size - 0 := by rw [Hll.out]; rfl
    have Hdl := Lib.hid hdl
    clear n0 n1 n2 hbase hdl
    by_cases hz : s.size = 0
    · have hzz : ((0 : Int) == (s.size : Int)) = true := by rw [hz]; rfl
      have Hend := Lib.hid (N0.out (List.eq_nil_of_length_eq_zero (by rw [Hdl.out]; omega)))
      clear hz
      go_enter Tryz.func17, Tryz.ntmps17
      go_wp2
      go_ret2
      exact ⟨numret Hend.out.symm.symm, rfl⟩
    · have hzz : ((0 : Int) == (s.size : Int)) = false := by rw [beq_eq_false_iff_ne]; omega
      have Hne : Hid (l ≠ []) := Lib.hid (fun e => by have := Hdl.out; rw [e] at this; simp at this; omega)
      clear hz
      go_enter Tryz.func17, Tryz.ntmps17
      go_wp2_with fail
      go_loop [6, 7] (fun n i => ∃ k : Nat, i = .int .i64 (k : Nat) ∧ k ≤ s.size ∧ n = .int .i64 (capV 10 ((l).take k)) ∧ ∀ j (h : j < (l).length), j < k → dig (l)[j] < 10) (fun _ i => s.size - (intOf i).toNat)
      case atStart => exact ⟨0, rfl, by omega, rfl, fun j _ h => absurd h (by omega)⟩
      case round =>
        obtain ⟨k, rfl, hk, rfl, hall⟩ := hrel
        have Hall := Lib.hid hall
        clear hall
        have hcle := capV_le 10 (by decide) (l) k (by rw [Hdl.out]; omega)
        by_cases hlt : k < s.size
        · have hkl : k < (l).length := by rw [Hdl.out]; omega
          have hbyte : s[k] = (l)[k] := by
            have := Hl.out; subst this
            rfl
          have hcs := capV_succ 10 (l) hkl
          unfold capF at hcs
          have hdl := dig_le s[k]
          have HD := Lib.hid (fun w0 => rdigit_any s[k] w0)
          have N1k := N1.out k hkl
          rw [← hbyte] at hcs N1k
          have Hnext : Hid (dig s[k] < 10 → ∀ j (h : j < (l).length), j < k + 1 → dig (l)[j] < 10) := Lib.hid (fun hd j h hj => by
            by_cases e : j = k
            · subst e; rw [← hbyte]; exact hd
            · exact Hall.out j h (by omega))
          generalize capV 10 ((l).take k) = c at *
          generalize dig s[k] = d at *
          by_cases hd : d < 10
          · have hdz : ¬ ((10 : Int) ≤ (d : Int)) := by omega
            have HN := Lib.hid (Hnext.out hd)
            clear N1k hbyte Hnext
            by_cases hc : c ≤ 2147483647
            · rw [if_pos hc] at hcs
              have hcz : (c : Int) ≤ 2147483647 := by omega
              have Hcs := Lib.hid hcs
              clear hcs
              go_wp2_with (go_at_call 28; (with_reducible refine (HD.out _).mono ?_); rintro e w1 ⟨rfl, rfl⟩)
              go_round
              case rel => exact ⟨k + 1, by go_num, by omega, by rw [Hcs.out]; go_num, HN.out⟩
              case measure => simp [intOf]; omega
            · rw [if_neg hc] at hcs
              have hcz : ¬ ((c : Int) ≤ 2147483647) := by omega
              have Hcs := Lib.hid hcs
              clear hcs
              go_wp2_with (go_at_call 28; (with_reducible refine (HD.out _).mono ?_); rintro e w1 ⟨rfl, rfl⟩)
              go_round
              case rel => exact ⟨k + 1, by go_num, by omega, by rw [Hcs.out], HN.out⟩
              case measure => simp [intOf]; omega
          · have hdz : (10 : Int) ≤ (d : Int) := by omega
            have Hend := Lib.hid (N1k hd)
            clear N1k hbyte Hnext hcs
            go_wp2_with (go_at_call 28; (with_reducible refine (HD.out _).mono ?_); rintro e w1 ⟨rfl, rfl⟩)
            go_ret2
            exact ⟨numret Hend.out, rfl⟩
        · have hbad : ¬ (((k : Nat) : Int) < (s.size : Int)) := by omega
          have hfull : (l).take k = l := List.take_of_length_le (by rw [Hdl.out]; omega)
          have N2' := N2.out Hne.out (fun j h => Hall.out j h (by have := Hdl.out; omega))
          rw [hfull] at hcle ⊢
          generalize capV 10 (l) = c at *
          by_cases hc : 2147483647 < c
          · have hcz : (2147483647 : Int) < (c : Int) := by omega
            have Hend := Lib.hid (N2'.1 hc)
            clear N2' hfull
            go_wp2_with fail
            go_ret2
            exact ⟨numret Hend.out, rfl⟩
          · have hcz : ¬ ((2147483647 : Int) < (c : Int)) := by omega
            have Hend := Lib.hid (N2'.2 (by omega))
            clear N2' hfull
            go_wp2_with fail
            go_ret2
            exact ⟨numret Hend.out, rfl⟩
  
set_option maxHeartbeats 2000000 in
set_option maxRecDepth 100000 in
theorem rnumber_hex (s : ByteArray) (w : World) (hs : s.size ≤ 5000) (h1 : 1 < s.size) (h48 : ((s[0].toNat : Int) == 48) = true) (hx : ((s[1].toNat : Int) == 120) = true ∨ (((s[1].toNat : Int) == 120) = false ∧ ((s[1].toNat : Int) == 88) = true)) :
    Calls Tryz.prog 17 #[.string s] w fun e w' => e = .returned (.tuple #[.int .i64 (rnumV (Lx.number s.data.toList)).1, .int .i64 (rnumV (Lx.number s.data.toList)).2]) ∧ w = w' := by
  have hbase := base_hex (l := s.data.toList) (by rw [len_data]; exact h1) (byte_eq (k := 48) h48) (hx.imp (byte_eq (k := 120)) (fun e => byte_eq (k := 88) e.2))
  rcases hx with hx1 | ⟨hx1, hx2⟩
  all_goals
    obtain ⟨l, hl⟩ : ∃ l, l = s.data.toList := ⟨_, rfl⟩
    have Hl := Lib.hid hl
    have Hll := Lib.hid (show l.length = s.size by rw [hl, len_data])
    rw [← hl] at hbase ⊢
    clear hl
    obtain ⟨n0, n1, n2⟩ := rnumber_of hbase (by decide) (by decide)
    have N0 := Lib.hid n0; have N1 := Lib.hid n1; have N2 := Lib.hid n2
    have hdl : (l.drop 2).length = s.size - 2 := by rw [List.length_drop, Hll.out]
    have Hdl := Lib.hid hdl
    clear n0 n1 n2 hbase hdl
    by_cases hz : s.size = 2
    · have hzz : ((2 : Int) == (s.size : Int)) = true := by rw [hz]; rfl
      have Hend := Lib.hid (N0.out (List.eq_nil_of_length_eq_zero (by rw [Hdl.out]; omega)))
      clear hz
      go_enter Tryz.func17, Tryz.ntmps17
      go_wp2
      go_ret2
      exact ⟨numret Hend.out.symm.symm, rfl⟩
    · have hzz : ((2 : Int) == (s.size : Int)) = false := by rw [beq_eq_false_iff_ne]; omega
      have Hne : Hid (l.drop 2 ≠ []) := Lib.hid (fun e => by have := Hdl.out; rw [e] at this; simp at this; omega)
      clear hz
      go_enter Tryz.func17, Tryz.ntmps17
      go_wp2_with fail
      go_loop [6, 7] (fun n i => ∃ k : Nat, i = .int .i64 (2 + k : Nat) ∧ 2 + k ≤ s.size ∧ n = .int .i64 (capV 16 ((l.drop 2).take k)) ∧ ∀ j (h : j < (l.drop 2).length), j < k → dig (l.drop 2)[j] < 16) (fun _ i => s.size - (intOf i).toNat)
      case atStart => exact ⟨0, rfl, by omega, rfl, fun j _ h => absurd h (by omega)⟩
      case round =>
        obtain ⟨k, rfl, hk, rfl, hall⟩ := hrel
        have Hall := Lib.hid hall
        clear hall
        have hcle := capV_le 16 (by decide) (l.drop 2) k (by rw [Hdl.out]; omega)
        by_cases hlt : 2 + k < s.size
        · have hkl : k < (l.drop 2).length := by rw [Hdl.out]; omega
          have hbyte : s[2 + k] = (l.drop 2)[k] := by
            have := Hl.out; subst this
            rw [List.getElem_drop]; rfl
          have hcs := capV_succ 16 (l.drop 2) hkl
          unfold capF at hcs
          have hdl := dig_le s[2 + k]
          have HD := Lib.hid (fun w0 => rdigit_any s[2 + k] w0)
          have N1k := N1.out k hkl
          rw [← hbyte] at hcs N1k
          have Hnext : Hid (dig s[2 + k] < 16 → ∀ j (h : j < (l.drop 2).length), j < k + 1 → dig (l.drop 2)[j] < 16) := Lib.hid (fun hd j h hj => by
            by_cases e : j = k
            · subst e; rw [← hbyte]; exact hd
            · exact Hall.out j h (by omega))
          generalize capV 16 ((l.drop 2).take k) = c at *
          generalize dig s[2 + k] = d at *
          have e1 : (((2 + k : Nat) : Int)) = (2 : Int) + k := by push_cast; rfl
          by_cases hd : d < 16
          · have hdz : ¬ ((16 : Int) ≤ (d : Int)) := by omega
            have HN := Lib.hid (Hnext.out hd)
            clear N1k hbyte Hnext
            by_cases hc : c ≤ 2147483647
            · rw [if_pos hc] at hcs
              have hcz : (c : Int) ≤ 2147483647 := by omega
              have Hcs := Lib.hid hcs
              clear hcs
              go_wp2_with (go_at_call 28; (with_reducible refine (HD.out _).mono ?_); rintro e w1 ⟨rfl, rfl⟩)
              go_round
              case rel => exact ⟨k + 1, by go_num, by omega, by rw [Hcs.out]; go_num, HN.out⟩
              case measure => simp [intOf]; omega
            · rw [if_neg hc] at hcs
              have hcz : ¬ ((c : Int) ≤ 2147483647) := by omega
              have Hcs := Lib.hid hcs
              clear hcs
              go_wp2_with (go_at_call 28; (with_reducible refine (HD.out _).mono ?_); rintro e w1 ⟨rfl, rfl⟩)
              go_round
              case rel => exact ⟨k + 1, by go_num, by omega, by rw [Hcs.out], HN.out⟩
              case measure => simp [intOf]; omega
          · have hdz : (16 : Int) ≤ (d : Int) := by omega
            have Hend := Lib.hid (N1k hd)
            clear N1k hbyte Hnext hcs
            go_wp2_with (go_at_call 28; (with_reducible refine (HD.out _).mono ?_); rintro e w1 ⟨rfl, rfl⟩)
            go_ret2
            exact ⟨numret Hend.out, rfl⟩
        · have hbad : ¬ (((2 + k : Nat) : Int) < (s.size : Int)) := by omega
          have hfull : (l.drop 2).take k = l.drop 2 := List.take_of_length_le (by rw [Hdl.out]; omega)
          have N2' := N2.out Hne.out (fun j h => Hall.out j h (by have := Hdl.out; omega))
          rw [hfull] at hcle ⊢
          generalize capV 16 (l.drop 2) = c at *
          by_cases hc : 2147483647 < c
          · have hcz : (2147483647 : Int) < (c : Int) := by omega
            have Hend := Lib.hid (N2'.1 hc)
            clear N2' hfull
            go_wp2_with fail
            go_ret2
            exact ⟨numret Hend.out, rfl⟩
          · have hcz : ¬ ((2147483647 : Int) < (c : Int)) := by omega
            have Hend := Lib.hid (N2'.2 (by omega))
            clear N2' hfull
            go_wp2_with fail
            go_ret2
            exact ⟨numret Hend.out, rfl⟩
  
set_option maxHeartbeats 2000000 in
set_option maxRecDepth 100000 in
theorem rnumber_oct (s : ByteArray) (w : World) (hs : s.size ≤ 5000) (h1 : 1 < s.size) (h48 : ((s[0].toNat : Int) == 48) = true) (hx1 : ((s[1].toNat : Int) == 120) = false) (hx2 : ((s[1].toNat : Int) == 88) = false) :
    Calls Tryz.prog 17 #[.string s] w fun e w' => e = .returned (.tuple #[.int .i64 (rnumV (Lx.number s.data.toList)).1, .int .i64 (rnumV (Lx.number s.data.toList)).2]) ∧ w = w' := by
  have hbase := base_oct (l := s.data.toList) (by rw [len_data]; exact h1) (byte_eq (k := 48) h48) (fun e => e.elim (byte_ne (k := 120) hx1) (byte_ne (k := 88) hx2))

  obtain ⟨l, hl⟩ : ∃ l, l = s.data.toList := ⟨_, rfl⟩
  have Hl := Lib.hid hl
  have Hll := Lib.hid (show l.length = s.size by rw [hl, len_data])
  rw [← hl] at hbase ⊢
  clear hl
  obtain ⟨n0, n1, n2⟩ := rnumber_of hbase (by decide) (by decide)
  have N0 := Lib.hid n0; have N1 := Lib.hid n1; have N2 := Lib.hid n2
  have hdl : (l.drop 1).length = s.size - 1 := by rw [List.length_drop, Hll.out]
  have Hdl := Lib.hid hdl
  clear n0 n1 n2 hbase hdl
  by_cases hz : s.size = 1
  · have hzz : ((1 : Int) == (s.size : Int)) = true := by rw [hz]; rfl
    have Hend := Lib.hid (N0.out (List.eq_nil_of_length_eq_zero (by rw [Hdl.out]; omega)))
    clear hz
    go_enter Tryz.func17, Tryz.ntmps17
    go_wp2
    go_ret2
    exact ⟨numret Hend.out.symm.symm, rfl⟩
  · have hzz : ((1 : Int) == (s.size : Int)) = false := by rw [beq_eq_false_iff_ne]; omega
    have Hne : Hid (l.drop 1 ≠ []) := Lib.hid (fun e => by have := Hdl.out; rw [e] at this; simp at this; omega)
    clear hz
    go_enter Tryz.func17, Tryz.ntmps17
    go_wp2_with fail
    go_loop [6, 7] (fun n i => ∃ k : Nat, i = .int .i64 (1 + k : Nat) ∧ 1 + k ≤ s.size ∧ n = .int .i64 (capV 8 ((l.drop 1).take k)) ∧ ∀ j (h : j < (l.drop 1).length), j < k → dig (l.drop 1)[j] < 8) (fun _ i => s.size - (intOf i).toNat)
    case atStart => exact ⟨0, rfl, by omega, rfl, fun j _ h => absurd h (by omega)⟩
    case round =>
      obtain ⟨k, rfl, hk, rfl, hall⟩ := hrel
      have Hall := Lib.hid hall
      clear hall
      have hcle := capV_le 8 (by decide) (l.drop 1) k (by rw [Hdl.out]; omega)
      by_cases hlt : 1 + k < s.size
      · have hkl : k < (l.drop 1).length := by rw [Hdl.out]; omega
        have hbyte : s[1 + k] = (l.drop 1)[k] := by
          have := Hl.out; subst this
          rw [List.getElem_drop]; rfl
        have hcs := capV_succ 8 (l.drop 1) hkl
        unfold capF at hcs
        have hdl := dig_le s[1 + k]
        have HD := Lib.hid (fun w0 => rdigit_any s[1 + k] w0)
        have N1k := N1.out k hkl
        rw [← hbyte] at hcs N1k
        have Hnext : Hid (dig s[1 + k] < 8 → ∀ j (h : j < (l.drop 1).length), j < k + 1 → dig (l.drop 1)[j] < 8) := Lib.hid (fun hd j h hj => by
          by_cases e : j = k
          · subst e; rw [← hbyte]; exact hd
          · exact Hall.out j h (by omega))
        generalize capV 8 ((l.drop 1).take k) = c at *
        generalize dig s[1 + k] = d at *
        have e1 : (((1 + k : Nat) : Int)) = (1 : Int) + k := by push_cast; rfl
        by_cases hd : d < 8
        · have hdz : ¬ ((8 : Int) ≤ (d : Int)) := by omega
          have HN := Lib.hid (Hnext.out hd)
          clear N1k hbyte Hnext
          by_cases hc : c ≤ 2147483647
          · rw [if_pos hc] at hcs
            have hcz : (c : Int) ≤ 2147483647 := by omega
            have Hcs := Lib.hid hcs
            clear hcs
            go_wp2_with (go_at_call 28; (with_reducible refine (HD.out _).mono ?_); rintro e w1 ⟨rfl, rfl⟩)
            go_round
            case rel => exact ⟨k + 1, by go_num, by omega, by rw [Hcs.out]; go_num, HN.out⟩
            case measure => simp [intOf]; omega
          · rw [if_neg hc] at hcs
            have hcz : ¬ ((c : Int) ≤ 2147483647) := by omega
            have Hcs := Lib.hid hcs
            clear hcs
            go_wp2_with (go_at_call 28; (with_reducible refine (HD.out _).mono ?_); rintro e w1 ⟨rfl, rfl⟩)
            go_round
            case rel => exact ⟨k + 1, by go_num, by omega, by rw [Hcs.out], HN.out⟩
            case measure => simp [intOf]; omega
        · have hdz : (8 : Int) ≤ (d : Int) := by omega
          have Hend := Lib.hid (N1k hd)
          clear N1k hbyte Hnext hcs
          go_wp2_with (go_at_call 28; (with_reducible refine (HD.out _).mono ?_); rintro e w1 ⟨rfl, rfl⟩)
          go_ret2
          exact ⟨numret Hend.out, rfl⟩
      · have hbad : ¬ (((1 + k : Nat) : Int) < (s.size : Int)) := by omega
        have hfull : (l.drop 1).take k = l.drop 1 := List.take_of_length_le (by rw [Hdl.out]; omega)
        have N2' := N2.out Hne.out (fun j h => Hall.out j h (by have := Hdl.out; omega))
        rw [hfull] at hcle ⊢
        generalize capV 8 (l.drop 1) = c at *
        by_cases hc : 2147483647 < c
        · have hcz : (2147483647 : Int) < (c : Int) := by omega
          have Hend := Lib.hid (N2'.1 hc)
          clear N2' hfull
          go_wp2_with fail
          go_ret2
          exact ⟨numret Hend.out, rfl⟩
        · have hcz : ¬ ((2147483647 : Int) < (c : Int)) := by omega
          have Hend := Lib.hid (N2'.2 (by omega))
          clear N2' hfull
          go_wp2_with fail
          go_ret2
          exact ⟨numret Hend.out, rfl⟩

theorem rnumber_any (s : ByteArray) (w : World) (hs : s.size ≤ 5000) :
    Calls Tryz.prog 17 #[.string s] w fun e w' => e = .returned (.tuple #[.int .i64 (rnumV (Lx.number s.data.toList)).1, .int .i64 (rnumV (Lx.number s.data.toList)).2]) ∧ w = w' := by
  by_cases h1 : 1 < s.size
  · cases h48 : ((s[0].toNat : Int) == 48)
    · refine rnumber_ten s w hs (fun e => byte_ne (b := s[0]) (k := 48) h48 ?_)
      have := e.2
      rw [List.head?_eq_getElem?, List.getElem?_eq_getElem (by rw [len_data]; omega)] at this
      exact Option.some.inj this
    · cases hx1 : ((s[1].toNat : Int) == 120)
      · cases hx2 : ((s[1].toNat : Int) == 88)
        · exact rnumber_oct s w hs h1 h48 hx1 hx2
        · exact rnumber_hex s w hs h1 h48 (.inr ⟨hx1, hx2⟩)
      · exact rnumber_hex s w hs h1 h48 (.inl hx1)
  · exact rnumber_ten s w hs (fun e => h1 e.1)

end Go.Proofs.YtiopcdbginnflaaGreatDoor
