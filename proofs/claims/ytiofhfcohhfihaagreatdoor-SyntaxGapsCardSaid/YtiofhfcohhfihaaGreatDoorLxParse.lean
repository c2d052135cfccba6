/- The library's ParseUint at 31 bits, walked: texts of digits alone. -/
import Derived.Test.YtiofhfcohhfihaaGreatDoorLxNum
import Derived.Lib.ConvBytes
import Derived.Lib.Strings
import Derived.Laws.Strings3
import Derived.Laws.Closers25
import Derived.Laws.Closers25b
import Derived.Lib.ParseIntBMem
namespace Go.Proofs.YtiofhfcohhfihaaGreatDoor
open Go.RowKit
set_option linter.unusedVariables false
set_option linter.unusedSimpArgs false

def parseV (n : Nat) : Value := if 2147483647 < n then .tuple #[.int .u64 2147483647, .iface 251 (.int .i64 1)] else .tuple #[.int .u64 n, .nilIface]
theorem valueOf_succ (base : Nat) {l : Lx.Bs} {k : Nat} (h : k < l.length) : Lx.valueOf base (l.take (k + 1)) = Lx.valueOf base (l.take k) * base + Lx.digit l[k] := by
  unfold Lx.valueOf
  rw [List.take_succ_eq_append_getElem h, List.foldl_append]; rfl
theorem valueOf_mono (base : Nat) (hb : 1 ≤ base) (l : Lx.Bs) : ∀ (j k : Nat), k + j = l.length → Lx.valueOf base (l.take k) ≤ Lx.valueOf base l
  | 0, k, h => by rw [List.take_of_length_le (by omega)]; exact Nat.le_refl _
  | j + 1, k, h => by
    refine Nat.le_trans ?_ (valueOf_mono base hb l j (k + 1) (by omega))
    rw [valueOf_succ base (show k < l.length by omega)]
    have := Nat.mul_le_mul_left (Lx.valueOf base (l.take k)) hb
    omega
theorem digit_dec (b : UInt8) (h : Lx.digit b < 10) : 48 ≤ b.toNat ∧ b.toNat ≤ 57 ∧ Lx.digit b = b.toNat - 48 := by
  have := all256 (fun b => decide (Lx.digit b < 10 → 48 ≤ b.toNat ∧ b.toNat ≤ 57 ∧ Lx.digit b = b.toNat - 48)) (by decide +kernel) b
  exact (decide_eq_true_iff.1 this) h
theorem digit_hex (b : UInt8) (h : Lx.digit b < 16) (h2 : 10 ≤ Lx.digit b) : 58 ≤ b.toNat ∧ b.toNat ≠ 95 ∧ Go.bits .or .u8 (b.toNat : Int) 32 = ((Lx.digit b + 87 : Nat) : Int) := by
  have := all256 (fun b => decide (Lx.digit b < 16 → 10 ≤ Lx.digit b → 58 ≤ b.toNat ∧ b.toNat ≠ 95 ∧ Go.bits .or .u8 (b.toNat : Int) 32 = ((Lx.digit b + 87 : Nat) : Int))) (by decide +kernel) b
  exact (decide_eq_true_iff.1 this) h h2
theorem lower_any (c : Int) (w : World) : Calls Tryz.prog 156 #[.int .u8 c] w fun e w' => e = .returned (.int .u8 (Go.bits .or .u8 c 32)) ∧ w = w' := by
  go_enter Tryz.func156, Tryz.ntmps156
  go_wp2
  go_ret
  exact ⟨rfl, rfl⟩
theorem bytes_below (w : World) (e : TypeId) (s : ByteArray) : Below w.heap.size w (Lib.bytesWorld w e s) :=
  ⟨rfl, rfl, rfl, by simp [Lib.bytesWorld, World.freeze], fun k hk => Lib.bytesWorld_at_old w e s k hk⟩

set_option maxHeartbeats 8000000 in
set_option maxRecDepth 100000 in
theorem parse_8 (t : ByteArray) (hne : t.size ≠ 0) (hmax : t.size ≤ 9223372036854775806) (w : World) (hd : ∀ b ∈ t.data.toList, Lx.digit b < 8) :
    Calls Tryz.prog 147 #[.string t, .int .i64 8, .int .i64 31] w fun e w' => e = .returned (parseV (Lx.valueOf 8 t.data.toList)) ∧ Below w.heap.size w w' := by
  have HD := Lib.hid hd
  have hemp : t.toList.isEmpty = false := isEmpty_no hne
  have hcv := Lib.run_convert_string_bytes (P := Tryz.prog) w 9 165 5 t (u := .string) Tryz.underlying9 Tryz.underlying165 Tryz.underlying5
  have hB : ∀ j, j < t.size → (Lib.bytesWorld w 5 t).cell? ⟨w.heap.size, j, none⟩ = some (.int .u8 (t.data.toList.getD j 0).toNat) := fun j hj => Lib.bytesWorld_cell w 5 t j hj
  have Hbel := Lib.hid (bytes_below w 5 t)
  obtain ⟨W1, hW1⟩ : ∃ W1, W1 = Lib.bytesWorld w 5 t := ⟨_, rfl⟩
  rw [← hW1] at hcv hB Hbel
  clear hW1 hd
  obtain ⟨bs, hL⟩ : ∃ bs, bs = t.data.toList := ⟨_, rfl⟩
  have hLn : bs.length = t.size := by rw [hL, Lib.size_eq]
  rw [← hL] at hB HD ⊢
  clear hL
  have hmv : IntKind.u64.wrap (IntKind.u64.wrap 2147483648 - 1) = 2147483647 := by
    rw [IntKind.wrap_u64, IntKind.wrap_u64]
    decide
  have HV := Lib.hid (fun k => valueOf_mono 8 (by decide) bs (bs.length - k) k)
  have HB := Lib.hid hB
  have HLn := Lib.hid hLn
  clear hB hLn
  go_enter Tryz.func147, Tryz.ntmps147
  go_wp2
  go_loop [12, 13, 15, 16, 17, 101] (fun vu vn _ _ _ vi => ∃ (k acc : Nat) (a : Int), vu = .bool false ∧ vn = .int .u64 a ∧ vi = .int .i64 k ∧ k ≤ t.size ∧ Hid (a = (acc : Int) ∧ acc ≤ 2147483647 ∧ acc = Lx.valueOf 8 (bs.take k)))
    (fun _ _ _ _ _ vi => t.size - (intOf vi).toNat)
  case atStart => exact ⟨0, 0, 0, rfl, rfl, rfl, by omega, Lib.hid ⟨rfl, by omega, rfl⟩⟩
  case round =>
    obtain ⟨k, acc, a, rfl, rfl, rfl, hk, hh⟩ := hrel
    obtain ⟨ha, hacc, hav⟩ := hh.out
    have Hacc := Lib.hid hav
    clear hh hav
    have a0 : 0 ≤ a := by omega
    have a1 : a ≤ 2147483647 := by omega
    by_cases hkn : k < t.size
    · have hc := HB.out k hkn
      have hkl : k < bs.length := by rw [HLn.out]; exact hkn
      have hget : bs.getD k 0 = bs[k] := by simp [List.getD, List.getElem?_eq_getElem hkl]
      have hsucc := valueOf_succ 8 hkl
      have hle := HV.out (k + 1) (by omega)
      have hdig := HD.out bs[k] (List.getElem_mem _)
      rw [hget] at hc
      rw [hsucc, ← Hacc.out] at hle
      rw [← Hacc.out] at hsucc
      generalize bs[k] = c at hc hsucc hle hdig
      have hc256 : c.toNat < 256 := c.toNat_lt
      clear hget hkl
      by_cases h9 : Lx.digit c < 10
      · obtain ⟨d0, d1, d2⟩ := digit_dec c h9
        rw [d2] at hsucc hle hdig
        have hdz : (c.toNat : Int) - 48 < 8 := by omega
        clear d2 h9
        by_cases hov : 2147483647 < acc * 8 + (c.toNat - 48)
        · have Hend := Lib.hid (show 2147483647 < Lx.valueOf 8 bs by omega)
          have iov : 2147483647 < a * 8 + ((c.toNat : Int) - 48) := by omega
          clear hov hsucc hle hdig hacc ha
          go_wp2
          go_ret2
          exact ⟨by unfold parseV; rw [if_pos Hend.out]; rfl, Hbel.out⟩
        · have HN := Lib.hid (show (acc * 8 + (c.toNat - 48) : Nat) = Lx.valueOf 8 (bs.take (k + 1)) from hsucc.symm)
          have iov : a * 8 + ((c.toNat : Int) - 48) ≤ 2147483647 := by omega
          have Hnn := Lib.hid (show acc * 8 + (c.toNat - 48) ≤ 2147483647 by omega)
          have hcast : Hid (((acc * 8 + (c.toNat - 48) : Nat) : Int) = a * 8 + ((c.toNat : Int) - 48)) := Lib.hid (by omega)
          clear hov hsucc hle hdig hacc ha
          go_wp2
          refine ⟨⟨k + 1, acc * 8 + (c.toNat - 48), _, rfl, rfl, by go_num, by omega, Lib.hid ⟨hcast.out.symm, Hnn.out, HN.out⟩⟩, by simp [intOf]; omega⟩
      · exfalso; omega
    · have hkk : k = t.size := by omega
      subst hkk
      have Hend := Lib.hid (show acc = Lx.valueOf 8 bs by have h := Hacc.out; rw [List.take_of_length_le (by rw [HLn.out]; exact Nat.le_refl _)] at h; exact h)
      have Hle := Lib.hid hacc
      subst ha
      clear hacc a0 a1
      go_wp2
      go_ret2
      exact ⟨by unfold parseV; rw [← Hend.out, if_neg (by have := Hle.out; omega)]; rfl, Hbel.out⟩

set_option maxHeartbeats 8000000 in
set_option maxRecDepth 100000 in
theorem parse_10 (t : ByteArray) (hne : t.size ≠ 0) (hmax : t.size ≤ 9223372036854775806) (w : World) (hd : ∀ b ∈ t.data.toList, Lx.digit b < 10) :
    Calls Tryz.prog 147 #[.string t, .int .i64 10, .int .i64 31] w fun e w' => e = .returned (parseV (Lx.valueOf 10 t.data.toList)) ∧ Below w.heap.size w w' := by
  have HD := Lib.hid hd
  have hemp : t.toList.isEmpty = false := isEmpty_no hne
  have hcv := Lib.run_convert_string_bytes (P := Tryz.prog) w 9 165 5 t (u := .string) Tryz.underlying9 Tryz.underlying165 Tryz.underlying5
  have hB : ∀ j, j < t.size → (Lib.bytesWorld w 5 t).cell? ⟨w.heap.size, j, none⟩ = some (.int .u8 (t.data.toList.getD j 0).toNat) := fun j hj => Lib.bytesWorld_cell w 5 t j hj
  have Hbel := Lib.hid (bytes_below w 5 t)
  obtain ⟨W1, hW1⟩ : ∃ W1, W1 = Lib.bytesWorld w 5 t := ⟨_, rfl⟩
  rw [← hW1] at hcv hB Hbel
  clear hW1 hd
  obtain ⟨bs, hL⟩ : ∃ bs, bs = t.data.toList := ⟨_, rfl⟩
  have hLn : bs.length = t.size := by rw [hL, Lib.size_eq]
  rw [← hL] at hB HD ⊢
  clear hL
  have hmv : IntKind.u64.wrap (IntKind.u64.wrap 2147483648 - 1) = 2147483647 := by
    rw [IntKind.wrap_u64, IntKind.wrap_u64]
    decide
  have HV := Lib.hid (fun k => valueOf_mono 10 (by decide) bs (bs.length - k) k)
  have HB := Lib.hid hB
  have HLn := Lib.hid hLn
  clear hB hLn
  go_enter Tryz.func147, Tryz.ntmps147
  go_wp2
  go_loop [12, 13, 15, 16, 17, 101] (fun vu vn _ _ _ vi => ∃ (k acc : Nat) (a : Int), vu = .bool false ∧ vn = .int .u64 a ∧ vi = .int .i64 k ∧ k ≤ t.size ∧ Hid (a = (acc : Int) ∧ acc ≤ 2147483647 ∧ acc = Lx.valueOf 10 (bs.take k)))
    (fun _ _ _ _ _ vi => t.size - (intOf vi).toNat)
  case atStart => exact ⟨0, 0, 0, rfl, rfl, rfl, by omega, Lib.hid ⟨rfl, by omega, rfl⟩⟩
  case round =>
    obtain ⟨k, acc, a, rfl, rfl, rfl, hk, hh⟩ := hrel
    obtain ⟨ha, hacc, hav⟩ := hh.out
    have Hacc := Lib.hid hav
    clear hh hav
    have a0 : 0 ≤ a := by omega
    have a1 : a ≤ 2147483647 := by omega
    by_cases hkn : k < t.size
    · have hc := HB.out k hkn
      have hkl : k < bs.length := by rw [HLn.out]; exact hkn
      have hget : bs.getD k 0 = bs[k] := by simp [List.getD, List.getElem?_eq_getElem hkl]
      have hsucc := valueOf_succ 10 hkl
      have hle := HV.out (k + 1) (by omega)
      have hdig := HD.out bs[k] (List.getElem_mem _)
      rw [hget] at hc
      rw [hsucc, ← Hacc.out] at hle
      rw [← Hacc.out] at hsucc
      generalize bs[k] = c at hc hsucc hle hdig
      have hc256 : c.toNat < 256 := c.toNat_lt
      clear hget hkl
      by_cases h9 : Lx.digit c < 10
      · obtain ⟨d0, d1, d2⟩ := digit_dec c h9
        rw [d2] at hsucc hle hdig
        have hdz : (c.toNat : Int) - 48 < 10 := by omega
        clear d2 h9
        by_cases hov : 2147483647 < acc * 10 + (c.toNat - 48)
        · have Hend := Lib.hid (show 2147483647 < Lx.valueOf 10 bs by omega)
          have iov : 2147483647 < a * 10 + ((c.toNat : Int) - 48) := by omega
          clear hov hsucc hle hdig hacc ha
          go_wp2
          go_ret2
          exact ⟨by unfold parseV; rw [if_pos Hend.out]; rfl, Hbel.out⟩
        · have HN := Lib.hid (show (acc * 10 + (c.toNat - 48) : Nat) = Lx.valueOf 10 (bs.take (k + 1)) from hsucc.symm)
          have iov : a * 10 + ((c.toNat : Int) - 48) ≤ 2147483647 := by omega
          have Hnn := Lib.hid (show acc * 10 + (c.toNat - 48) ≤ 2147483647 by omega)
          have hcast : Hid (((acc * 10 + (c.toNat - 48) : Nat) : Int) = a * 10 + ((c.toNat : Int) - 48)) := Lib.hid (by omega)
          clear hov hsucc hle hdig hacc ha
          go_wp2
          refine ⟨⟨k + 1, acc * 10 + (c.toNat - 48), _, rfl, rfl, by go_num, by omega, Lib.hid ⟨hcast.out.symm, Hnn.out, HN.out⟩⟩, by simp [intOf]; omega⟩
      · exfalso; omega
    · have hkk : k = t.size := by omega
      subst hkk
      have Hend := Lib.hid (show acc = Lx.valueOf 10 bs by have h := Hacc.out; rw [List.take_of_length_le (by rw [HLn.out]; exact Nat.le_refl _)] at h; exact h)
      have Hle := Lib.hid hacc
      subst ha
      clear hacc a0 a1
      go_wp2
      go_ret2
      exact ⟨by unfold parseV; rw [← Hend.out, if_neg (by have := Hle.out; omega)]; rfl, Hbel.out⟩

set_option maxHeartbeats 8000000 in
set_option maxRecDepth 100000 in
theorem parse_16 (t : ByteArray) (hne : t.size ≠ 0) (hmax : t.size ≤ 9223372036854775806) (w : World) (hd : ∀ b ∈ t.data.toList, Lx.digit b < 16) :
    Calls Tryz.prog 147 #[.string t, .int .i64 16, .int .i64 31] w fun e w' => e = .returned (parseV (Lx.valueOf 16 t.data.toList)) ∧ Below w.heap.size w w' := by
  have HD := Lib.hid hd
  have hemp : t.toList.isEmpty = false := isEmpty_no hne
  have hcv := Lib.run_convert_string_bytes (P := Tryz.prog) w 9 165 5 t (u := .string) Tryz.underlying9 Tryz.underlying165 Tryz.underlying5
  have hB : ∀ j, j < t.size → (Lib.bytesWorld w 5 t).cell? ⟨w.heap.size, j, none⟩ = some (.int .u8 (t.data.toList.getD j 0).toNat) := fun j hj => Lib.bytesWorld_cell w 5 t j hj
  have Hbel := Lib.hid (bytes_below w 5 t)
  obtain ⟨W1, hW1⟩ : ∃ W1, W1 = Lib.bytesWorld w 5 t := ⟨_, rfl⟩
  rw [← hW1] at hcv hB Hbel
  clear hW1 hd
  obtain ⟨bs, hL⟩ : ∃ bs, bs = t.data.toList := ⟨_, rfl⟩
  have hLn : bs.length = t.size := by rw [hL, Lib.size_eq]
  rw [← hL] at hB HD ⊢
  clear hL
  have hmv : IntKind.u64.wrap (IntKind.u64.wrap 2147483648 - 1) = 2147483647 := by
    rw [IntKind.wrap_u64, IntKind.wrap_u64]
    decide
  have HV := Lib.hid (fun k => valueOf_mono 16 (by decide) bs (bs.length - k) k)
  have HB := Lib.hid hB
  have HLn := Lib.hid hLn
  clear hB hLn
  go_enter Tryz.func147, Tryz.ntmps147
  go_wp2
  go_loop [12, 13, 15, 16, 17, 101] (fun vu vn _ _ _ vi => ∃ (k acc : Nat) (a : Int), vu = .bool false ∧ vn = .int .u64 a ∧ vi = .int .i64 k ∧ k ≤ t.size ∧ Hid (a = (acc : Int) ∧ acc ≤ 2147483647 ∧ acc = Lx.valueOf 16 (bs.take k)))
    (fun _ _ _ _ _ vi => t.size - (intOf vi).toNat)
  case atStart => exact ⟨0, 0, 0, rfl, rfl, rfl, by omega, Lib.hid ⟨rfl, by omega, rfl⟩⟩
  case round =>
    obtain ⟨k, acc, a, rfl, rfl, rfl, hk, hh⟩ := hrel
    obtain ⟨ha, hacc, hav⟩ := hh.out
    have Hacc := Lib.hid hav
    clear hh hav
    have a0 : 0 ≤ a := by omega
    have a1 : a ≤ 2147483647 := by omega
    by_cases hkn : k < t.size
    · have hc := HB.out k hkn
      have hkl : k < bs.length := by rw [HLn.out]; exact hkn
      have hget : bs.getD k 0 = bs[k] := by simp [List.getD, List.getElem?_eq_getElem hkl]
      have hsucc := valueOf_succ 16 hkl
      have hle := HV.out (k + 1) (by omega)
      have hdig := HD.out bs[k] (List.getElem_mem _)
      rw [hget] at hc
      rw [hsucc, ← Hacc.out] at hle
      rw [← Hacc.out] at hsucc
      generalize bs[k] = c at hc hsucc hle hdig
      have hc256 : c.toNat < 256 := c.toNat_lt
      clear hget hkl
      by_cases h9 : Lx.digit c < 10
      · obtain ⟨d0, d1, d2⟩ := digit_dec c h9
        rw [d2] at hsucc hle hdig
        have hdz : (c.toNat : Int) - 48 < 16 := by omega
        clear d2 h9
        by_cases hov : 2147483647 < acc * 16 + (c.toNat - 48)
        · have Hend := Lib.hid (show 2147483647 < Lx.valueOf 16 bs by omega)
          have iov : 2147483647 < a * 16 + ((c.toNat : Int) - 48) := by omega
          clear hov hsucc hle hdig hacc ha
          go_wp2
          go_ret2
          exact ⟨by unfold parseV; rw [if_pos Hend.out]; rfl, Hbel.out⟩
        · have HN := Lib.hid (show (acc * 16 + (c.toNat - 48) : Nat) = Lx.valueOf 16 (bs.take (k + 1)) from hsucc.symm)
          have iov : a * 16 + ((c.toNat : Int) - 48) ≤ 2147483647 := by omega
          have Hnn := Lib.hid (show acc * 16 + (c.toNat - 48) ≤ 2147483647 by omega)
          have hcast : Hid (((acc * 16 + (c.toNat - 48) : Nat) : Int) = a * 16 + ((c.toNat : Int) - 48)) := Lib.hid (by omega)
          clear hov hsucc hle hdig hacc ha
          go_wp2
          refine ⟨⟨k + 1, acc * 16 + (c.toNat - 48), _, rfl, rfl, by go_num, by omega, Lib.hid ⟨hcast.out.symm, Hnn.out, HN.out⟩⟩, by simp [intOf]; omega⟩
      · obtain ⟨d0, d1, d2⟩ := digit_hex c hdig (by omega)
        have h95 : ((c.toNat : Int) == 95) = false := by rw [beq_eq_false_iff_ne]; omega
        have HL : Hid (∀ w0, Calls Tryz.prog 156 #[.int .u8 c.toNat] w0 fun e w' => e = .returned (.int .u8 ((Lx.digit c : Int) + 87)) ∧ w0 = w') := Lib.hid (fun w0 => by
          have := lower_any c.toNat w0
          rw [d2] at this
          push_cast at this
          exact this)
        obtain ⟨d, hd0⟩ : ∃ d, d = Lx.digit c := ⟨_, rfl⟩
        rw [← hd0] at hsucc hle hdig HL h9
        have hd16 : (d : Int) + 87 - 97 + 10 < 16 := by omega
        clear d1 d2 hd0
        by_cases hov : 2147483647 < acc * 16 + d
        · have Hend := Lib.hid (show 2147483647 < Lx.valueOf 16 bs by omega)
          have iov : 2147483647 < a * 16 + (d : Int) := by omega
          have iov2 : 2147483647 < a * 16 + ((d : Int) + 87 - 97 + 10) := by omega
          clear hov hsucc hle hdig hacc ha
          go_wp2_with (go_at_call 156; (with_reducible refine (HL.out _).mono ?_); rintro e w' ⟨rfl, rfl⟩)
          go_ret2
          exact ⟨by unfold parseV; rw [if_pos Hend.out]; rfl, Hbel.out⟩
        · have HN := Lib.hid (show (acc * 16 + d : Nat) = Lx.valueOf 16 (bs.take (k + 1)) from hsucc.symm)
          have iov : a * 16 + (d : Int) ≤ 2147483647 := by omega
          have iov2 : a * 16 + ((d : Int) + 87 - 97 + 10) ≤ 2147483647 := by omega
          have Hnn := Lib.hid (show acc * 16 + d ≤ 2147483647 by omega)
          have hcast : Hid (((acc * 16 + d : Nat) : Int) = a * 16 + ((d : Int) + 87 - 97 + 10)) := Lib.hid (by omega)
          clear hov hsucc hle hdig hacc ha
          go_wp2_with (go_at_call 156; (with_reducible refine (HL.out _).mono ?_); rintro e w' ⟨rfl, rfl⟩)
          refine ⟨⟨k + 1, acc * 16 + d, _, rfl, rfl, by go_num, by omega, Lib.hid ⟨hcast.out.symm, Hnn.out, HN.out⟩⟩, by simp [intOf]; omega⟩
    · have hkk : k = t.size := by omega
      subst hkk
      have Hend := Lib.hid (show acc = Lx.valueOf 16 bs by have h := Hacc.out; rw [List.take_of_length_le (by rw [HLn.out]; exact Nat.le_refl _)] at h; exact h)
      have Hle := Lib.hid hacc
      subst ha
      clear hacc a0 a1
      go_wp2
      go_ret2
      exact ⟨by unfold parseV; rw [← Hend.out, if_neg (by have := Hle.out; omega)]; rfl, Hbel.out⟩

end Go.Proofs.YtiofhfcohhfihaaGreatDoor
