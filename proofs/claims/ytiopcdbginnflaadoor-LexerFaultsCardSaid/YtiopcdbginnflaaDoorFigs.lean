/- redlinenum.Figures, walked: a number's decimal digits, as strconv.Itoa writes them. -/
import Derived.Test.YtiopcdbginnflaaDoorLxVars
import Derived.Lib.ItoaNum
import Derived.Laws.BytesString
namespace Go.Proofs.YtiopcdbginnflaaDoor
open Go.RowKit
set_option linter.unusedVariables false
set_option linter.unusedSimpArgs false

theorem decD_step {m : Nat} (h : ¬ m < 10) : Lib.decDigits m = Lib.decDigits (m / 10) ++ [UInt8.ofNat (48 + m % 10)] := by rw [Lib.decDigits, dif_neg h]
theorem decD_last {m : Nat} (h : m < 10) : Lib.decDigits m = [UInt8.ofNat (48 + m % 10)] := by rw [Lib.decDigits, dif_pos h, Nat.mod_eq_of_lt h]
/-- what is left of the digits: m's, ahead of those that are written -/
def figAt (N m : Nat) (s : Lx.Bs) : Prop := if m = 0 then Lib.decDigits N = s else Lib.decDigits N = Lib.decDigits m ++ s
theorem figAt_step {N m : Nat} {s : Lx.Bs} (h : figAt N m s) (hm : m ≠ 0) : figAt N (m / 10) (UInt8.ofNat (48 + m % 10) :: s) := by
  unfold figAt at h ⊢
  rw [if_neg hm] at h
  by_cases h10 : m < 10
  · rw [if_pos (by omega), h, decD_last h10]; rfl
  · rw [if_neg (by omega), h, decD_step h10]; simp
def toS (l : Lx.Bs) : ByteArray := ⟨l.toArray⟩
theorem toS_cons (c : UInt8) (l : Lx.Bs) : (⟨#[c]⟩ : ByteArray) ++ toS l = toS (c :: l) := by
  apply ByteArray.ext
  apply Array.ext'
  simp [toS, ByteArray.data_append]
theorem toS_size (l : Lx.Bs) : (toS l).size = l.length := by show l.toArray.size = _; simp

theorem conv_one (W : World) (x : Int) (m : Nat) (hx : x.toNat = m) : (convert 54 9 (.slice (some ⟨W.heap.size, 0, none⟩) 1 1)).run Tryd.prog (W.alloc (.cells #[.int .u8 x] 5)) = .ok (.string ⟨#[UInt8.ofNat m]⟩) (W.alloc (.cells #[.int .u8 x] 5)) := by
  subst hx
  rw [run_convert_bytes_string _ _ _ _ _ _ _ Tryd.underlying54 Tryd.underlying5 Tryd.underlying9]
  rw [run_bytesToString (P := Tryd.prog) (W.alloc (.cells #[.int .u8 x] 5)) ⟨W.heap.size, 0, none⟩ 1 1 [x] (by simp [loadCells, loadCellsFrom, Sem.run_bind, Result.andThen, Addr.add])]
  rfl
theorem pow_step {n m k : Nat} (h : m * 10 ^ k ≤ n) : (m / 10) * 10 ^ (k + 1) ≤ n := by
  refine Nat.le_trans ?_ h
  rw [Nat.pow_succ, Nat.mul_comm (10 ^ k) 10, ← Nat.mul_assoc]
  exact Nat.mul_le_mul_right _ (Nat.div_mul_le_self m 10)
theorem pow_len {n m k : Nat} (h : m * 10 ^ k ≤ n) (hm : m ≠ 0) (hn : n ≤ 9223372036854775808) : k ≤ 20 := by
  rcases Nat.lt_or_ge 20 k with h2 | h2
  · exfalso
    have h3 : 10 ^ 21 ≤ 10 ^ k := Nat.pow_le_pow_right (by decide) h2
    have h4 : 10 ^ k ≤ m * 10 ^ k := Nat.le_mul_of_pos_left _ (by omega)
    have h5 : (10 : Nat) ^ 21 = 1000000000000000000000 := by decide
    omega
  · exact h2
set_option maxHeartbeats 2000000 in
set_option maxRecDepth 100000 in
theorem figs_pos (n : Nat) (w : World) (h0 : 0 < n) (h1 : (n : Int) ≤ 9223372036854775807) : Calls Tryd.prog 10 #[.int .i64 n] w fun e w' => e = .returned (.string ⟨(Lib.decDigits n).toArray⟩) ∧ Below w.heap.size w w' := by
  have hn0 : ((n : Int) == 0) = false := by rw [beq_eq_false_iff_ne]; omega
  have hb : decide ((n : Int) < 0) = false := decide_eq_false (by omega)
  have Hbig := Lib.hid (show n ≤ 9223372036854775808 by omega)
  go_enter Tryd.func10, Tryd.ntmps10
  go_wp2
  go_loopw [0, 3, 5] (fun x s _ wr => ∃ (m : Nat) (l : Lx.Bs), m ≤ n ∧ x = .int .i64 m ∧ s = .string (toS l) ∧ Hid (figAt n m l ∧ Below w.heap.size w wr ∧ m * 10 ^ l.length ≤ n)) (fun x _ _ _ => (intOf x).toNat)
  case atStart => exact ⟨n, [], Nat.le_refl _, rfl, rfl, Lib.hid ⟨by unfold figAt; rw [if_neg (by omega)]; simp, Below.refl _ _, by simp⟩⟩
  case round =>
    obtain ⟨m, l, hm, rfl, rfl, HF⟩ := hrel
    by_cases hz : m = 0
    · subst hz
      have Hend := Lib.hid (show Lib.decDigits n = l by have := HF.out.1; unfold figAt at this; rw [if_pos rfl] at this; exact this)
      go_wp2
      go_ret
      exact ⟨by rw [Hend.out]; rfl, HF.out.2.1⟩
    · have hmz : ((m : Int) != 0) = true := by rw [bne_iff_ne]; omega
      have hm1 : 1 ≤ m := by omega
      have hst := figAt_step HF.out.1 hz
      have hls : (toS l).size ≤ 20 := by rw [toS_size]; exact pow_len HF.out.2.2 hz Hbig.out
      have hcv := fun W : World => conv_one W (48 + (m : Int) % 10) (48 + m % 10) (by omega)
      have hwr : IntKind.u8.wrap (48 + (m : Int) % 10) = 48 + (m : Int) % 10 := by rw [IntKind.wrap_u8]; omega
      obtain ⟨c, hc⟩ : ∃ c, c = UInt8.ofNat (48 + m % 10) := ⟨_, rfl⟩
      rw [← hc] at hst hcv
      have Hst := Lib.hid hst
      have Hpow := Lib.hid (pow_step HF.out.2.2)
      have Hbw := Lib.hid (fun o => HF.out.2.1.alloc HF.out.2.1.size o)
      have Hcons := Lib.hid (toS_cons c l)
      clear hc hst hz
      go_wp2
      go_roundw
      case rel => exact ⟨m / 10, c :: l, by omega, by go_num, by rw [Hcons.out], Lib.hid ⟨Hst.out, Hbw.out _, Hpow.out⟩⟩
      case measure => simp [intOf]; omega

set_option maxHeartbeats 2000000 in
set_option maxRecDepth 100000 in
theorem figs_neg (n : Nat) (w : World) (h0 : 0 < n) (h1 : (n : Int) ≤ 9223372036854775808) : Calls Tryd.prog 10 #[.int .i64 (-(n : Int))] w fun e w' => e = .returned (.string ⟨(45 :: Lib.decDigits n).toArray⟩) ∧ Below w.heap.size w w' := by
  have hn0 : ((-(n : Int)) == 0) = false := by rw [beq_eq_false_iff_ne]; omega
  have hb : decide (-(n : Int) < 0) = true := decide_eq_true (by omega)
  have hnb : -(n : Int) < 0 := by omega
  have Hbig := Lib.hid (show n ≤ 9223372036854775808 by omega)
  go_enter Tryd.func10, Tryd.ntmps10
  go_wp2
  go_loopw [0, 3, 5] (fun x s _ wr => ∃ (m : Nat) (l : Lx.Bs), m ≤ n ∧ x = .int .i64 (-(m : Int)) ∧ s = .string (toS l) ∧ l.length ≤ 21 ∧ Hid (figAt n m l ∧ Below w.heap.size w wr ∧ m * 10 ^ l.length ≤ n)) (fun x _ _ _ => (-(intOf x)).toNat)
  case atStart => exact ⟨n, [], Nat.le_refl _, rfl, rfl, by simp, Lib.hid ⟨by unfold figAt; rw [if_neg (by omega)]; simp, Below.refl _ _, by simp⟩⟩
  case round =>
    obtain ⟨m, l, hm, rfl, rfl, hll, HF⟩ := hrel
    by_cases hz : m = 0
    · subst hz
      have Hend := Lib.hid (show Lib.decDigits n = l by have := HF.out.1; unfold figAt at this; rw [if_pos rfl] at this; exact this)
      have hls : (toS l).size ≤ 21 := by rw [toS_size]; exact hll
      have Hcons := Lib.hid (toS_cons 45 l)
      go_wp2
      go_ret
      exact ⟨by rw [Hend.out, Hcons.out]; rfl, HF.out.2.1⟩
    · have hmz : ((-(m : Int)) != 0) = true := by rw [bne_iff_ne]; omega
      have hm1 : 1 ≤ m := by omega
      have hst := figAt_step HF.out.1 hz
      have hlen := pow_len HF.out.2.2 hz Hbig.out
      have hls : (toS l).size ≤ 20 := by rw [toS_size]; exact hlen
      have hcv := fun W : World => conv_one W (48 + (m : Int) % 10) (48 + m % 10) (by omega)
      have hwr : IntKind.u8.wrap (48 + (m : Int) % 10) = 48 + (m : Int) % 10 := by rw [IntKind.wrap_u8]; omega
      have hmod : Int.tmod (-(m : Int)) 10 = -((m : Int) % 10) := by rw [Int.neg_tmod, Int.tmod_eq_emod_of_nonneg (by omega)]
      have hdiv : Int.tdiv (-(m : Int)) 10 = -((m : Int) / 10) := by rw [Int.neg_tdiv, Int.tdiv_eq_ediv_of_nonneg (by omega)]
      obtain ⟨c, hc⟩ : ∃ c, c = UInt8.ofNat (48 + m % 10) := ⟨_, rfl⟩
      rw [← hc] at hst hcv
      have Hst := Lib.hid hst
      have Hpow := Lib.hid (pow_step HF.out.2.2)
      have Hbw := Lib.hid (fun o => HF.out.2.1.alloc HF.out.2.1.size o)
      have Hcons := Lib.hid (toS_cons c l)
      have Hc := Lib.hid hc
      clear hc hst hz
      by_cases h10 : (m : Int) % 10 = 0
      · have hcv2 := fun W : World => conv_one W (48 + -((m : Int) % 10)) (48 + m % 10) (by omega)
        rw [← Hc.out] at hcv2
        have hwr2 : IntKind.u8.wrap (48 + -((m : Int) % 10)) = 48 + -((m : Int) % 10) := by rw [IntKind.wrap_u8]; omega
        have hd0 : decide ((0 : Int) < (m : Int) % 10) = false := decide_eq_false (by omega)
        clear h10 hcv hwr
        go_wp2
        go_roundw
        case rel => exact ⟨m / 10, c :: l, by omega, by go_num, by rw [Hcons.out], by simp; omega, Lib.hid ⟨Hst.out, Hbw.out _, Hpow.out⟩⟩
        case measure => simp [intOf]; omega
      · have hd0 : decide ((0 : Int) < (m : Int) % 10) = true := decide_eq_true (by omega)
        clear h10
        go_wp2
        go_roundw
        case rel => exact ⟨m / 10, c :: l, by omega, by go_num, by rw [Hcons.out], by simp; omega, Lib.hid ⟨Hst.out, Hbw.out _, Hpow.out⟩⟩
        case measure => simp [intOf]; omega

/-- a number's text -/
theorem figs_any (n : Int) (w : World) (h0 : -9223372036854775808 ≤ n) (h1 : n ≤ 9223372036854775807) : Calls Tryd.prog 10 #[.int .i64 n] w fun e w' => e = .returned (.string ⟨(Lib.itoa n).toArray⟩) ∧ Below w.heap.size w w' := by
  unfold Lib.itoa
  by_cases hz : n = 0
  · subst hz
    have hd : Lib.decDigits (0 : Int).toNat = [48] := by rw [Lib.decDigits]; rfl
    rw [if_neg (by decide), hd]
    clear hd
    go_enter Tryd.func10, Tryd.ntmps10
    go_wp2
    go_ret
    exact ⟨rfl, Below.refl _ _⟩
  · by_cases hneg : n < 0
    · rw [if_pos hneg]
      have := figs_neg n.natAbs w (by omega) (by omega)
      rw [show -((n.natAbs : Nat) : Int) = n by omega] at this
      exact this
    · rw [if_neg hneg]
      have := figs_pos n.toNat w (by omega) (by omega)
      rw [show ((n.toNat : Nat) : Int) = n by omega] at this
      exact this

end Go.Proofs.YtiopcdbginnflaaDoor
