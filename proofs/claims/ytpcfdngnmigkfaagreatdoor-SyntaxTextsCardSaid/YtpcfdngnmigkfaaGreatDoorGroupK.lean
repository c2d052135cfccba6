/- Package lexer, walked: digits; a number's digits are parsed. The library's ParseUint at 31 bits, walked: texts of digits alone. strings.ContainsAny at the two bytes that no text may hold, whatever the text. -/
import Derived.Test.YtpcfdngnmigkfaaGreatDoorGroupC
import Derived.Lib.ConvBytes
import Derived.Lib.Strings
import Derived.Laws.Strings3
import Derived.Laws.Closers25
import Derived.Laws.Closers25b
import Derived.Lib.ParseIntBMem
import Derived.Laws.RangeAny
import Derived.Lib.OthersKept
set_option linter.unusedVariables false
set_option linter.unusedSimpArgs false
namespace Go.Proofs.YtpcfdngnmigkfaaGreatDoor
open Go.RowKit
theorem all256 (P : UInt8 → Bool) (h : (List.range 256).all (fun n => P n.toUInt8) = true) (b : UInt8) : P b = true := by
 have hb := b.toNat_lt
 have := List.all_eq_true.1 h b.toNat (List.mem_range.2 hb)
 simpa using this
def smallL : Lx.Bs := [48, 49, 50, 51, 52, 53, 54, 55, 56, 57, 97, 98, 99, 100, 101, 102]
def largeL : Lx.Bs := [65, 66, 67, 68, 69, 70]
theorem digit_i (b : UInt8) : (if 0 ≤ Lib.indexByte smallL b then Lib.indexByte smallL b else if 0 ≤ Lib.indexByte largeL b then 10 + Lib.indexByte largeL b else 16) = (Lx.digit b : Nat) := by
 have := all256 (fun b => decide ((if 0 ≤ Lib.indexByte smallL b then Lib.indexByte smallL b else if 0 ≤ Lib.indexByte largeL b then 10 + Lib.indexByte largeL b else 16) = (Lx.digit b : Nat))) (by decide +kernel) b
 simpa using this
theorem idx_le (b : UInt8) : ∀ (l : Lx.Bs), Lib.indexByte l b < l.length + 1
 | [] => by simp [Lib.indexByte]
 | c :: r => by
  have := idx_le b r
  rw [Lib.indexByte]
  split
  ·simp; omega
  ·split
   ·simp; omega
   ·simp; omega
set_option maxHeartbeats 1000000 in
theorem digit_any (b : UInt8) (w : World) : Calls Tryz.prog 95 #[.int .u8 b.toNat] w fun e w' => e = .returned (.int .i64 (Lx.digit b : Nat)) ∧ w = w' := by
 have hs := fun w0 => idxbyte_any ⟨#[48, 49, 50, 51, 52, 53, 54, 55, 56, 57, 97, 98, 99, 100, 101, 102]⟩ b w0
 have hl := fun w0 => idxbyte_any ⟨#[65, 66, 67, 68, 69, 70]⟩ b w0
 have e1 : (⟨#[48, 49, 50, 51, 52, 53, 54, 55, 56, 57, 97, 98, 99, 100, 101, 102]⟩ : ByteArray).data.toList = smallL := rfl
 have e2 : (⟨#[65, 66, 67, 68, 69, 70]⟩ : ByteArray).data.toList = largeL := rfl
 rw [e1] at hs
 rw [e2] at hl
 have hd := digit_i b
 have h6 := idx_le b largeL
 have h7 : (largeL.length : Int) = 6 := rfl
 rw [h7] at h6
 rw [← hd]
 generalize Lib.indexByte smallL b = x at *
 generalize Lib.indexByte largeL b = y at *
 have HS := Yq hs
 have HL := Yq hl
 clear hs hl e1 e2 hd h7
 by_cases h1 : 0 ≤ x
 ·rw [if_pos h1]
  go_enter Tryz.func95, Tryz.ntmps95
  go_wp2_with fail
  refine (HS.out _).mono ?_
  rintro e w' ⟨rfl, rfl⟩
  go_wp2_with fail
  go_ret
  exact ⟨rfl, rfl⟩
 ·rw [if_neg h1]
  by_cases h2 : 0 ≤ y
  ·rw [if_pos h2]
   go_enter Tryz.func95, Tryz.ntmps95
   go_wp2_with fail
   refine (HS.out _).mono ?_
   rintro e w' ⟨rfl, rfl⟩
   go_wp2_with fail
   refine (HL.out _).mono ?_
   rintro e w' ⟨rfl, rfl⟩
   go_wp2_with fail
   go_ret
   exact ⟨rfl, rfl⟩
  ·rw [if_neg h2]
   go_enter Tryz.func95, Tryz.ntmps95
   go_wp2_with fail
   refine (HS.out _).mono ?_
   rintro e w' ⟨rfl, rfl⟩
   go_wp2_with fail
   refine (HL.out _).mono ?_
   rintro e w' ⟨rfl, rfl⟩
   go_wp2_with fail
   go_ret
   exact ⟨rfl, rfl⟩
def inBase (base : Nat) (b : UInt8) : Bool := decide (Lx.digit b < base)
set_option maxHeartbeats 1000000 in
theorem digf_any (base g : Nat) (b : UInt8) (w : World) (hc : w.cell? ⟨g, 0, none⟩ = some (.int .i64 base)) : Calls Tryz.prog 94 #[.int .u8 b.toNat, .pointer (some ⟨g, 0, none⟩)] w fun e w' => e = .returned (.bool (inBase base b)) ∧ Below w.heap.size w w' := by
 have HD := Yq (fun w0 => digit_any b w0)
 unfold inBase
 generalize Lx.digit b = d at *
 go_enter Tryz.func94, Tryz.ntmps94
 go_wp2
 go_quiet ((go_at_call 95; exact Calls.quiet_of_same ((HD.out _).mono fun e w1 h => ⟨h.1, h.2.symm⟩)))
 all_goals
  go_wp2
  go_ret
  exact ⟨ret_bool (decide_eq_decide.2 (by omega)), by first | exact Below.refl _ _ | exact (Below.refl _ _).drew | exact Below.drewN (Below.refl _ _) _⟩
def parseV (n : Nat) : Value := if 2147483647 < n then .tuple #[.int .u64 2147483647, .iface 203 (.int .i64 1)] else .tuple #[.int .u64 n, .nilIface]
theorem valueOf_succ (base : Nat) {l : Lx.Bs} {k : Nat} (h : k < l.length) : Lx.valueOf base (l.take (k + 1)) = Lx.valueOf base (l.take k) * base + Lx.digit l[k] := by
 unfold Lx.valueOf
 rw [List.take_succ_eq_append_getElem h, List.foldl_append]; rfl
theorem valueOf_mono (base : Nat) (hb : 1 ≤ base) (l : Lx.Bs) : ∀ (j k : Nat), k + j = l.length → Lx.valueOf base (l.take k) ≤ Lx.valueOf base l
 | 0, k, h => by rw [List.take_of_length_le (by omega)]; exact Nat.le_refl _
 | j + 1, k, h => by
  refine Nat.le_trans ?_ (valueOf_mono base hb l j (k + 1) (by omega))
  rw [valueOf_succ base (show k < l.length by omega)]
  have := Nat.mul_le_mul_left (Lx.valueOf base (l.take k)) hb
  omega
theorem digit_dec (b : UInt8) (h : Lx.digit b < 10) : 48 ≤ b.toNat ∧ b.toNat ≤ 57 ∧ Lx.digit b = b.toNat - 48 := by
 have := all256 (fun b => decide (Lx.digit b < 10 → 48 ≤ b.toNat ∧ b.toNat ≤ 57 ∧ Lx.digit b = b.toNat - 48)) (by decide +kernel) b
 exact (decide_eq_true_iff.1 this) h
theorem digit_hex (b : UInt8) (h : Lx.digit b < 16) (h2 : 10 ≤ Lx.digit b) : 58 ≤ b.toNat ∧ b.toNat ≠ 95 ∧ Go.bits .or .u8 (b.toNat : Int) 32 = ((Lx.digit b + 87 : Nat) : Int) := by
 have := all256 (fun b => decide (Lx.digit b < 16 → 10 ≤ Lx.digit b → 58 ≤ b.toNat ∧ b.toNat ≠ 95 ∧ Go.bits .or .u8 (b.toNat : Int) 32 = ((Lx.digit b + 87 : Nat) : Int))) (by decide +kernel) b
 exact (decide_eq_true_iff.1 this) h h2
theorem lower_any (c : Int) (w : World) : Calls Tryz.prog 113 #[.int .u8 c] w fun e w' => e = .returned (.int .u8 (Go.bits .or .u8 c 32)) ∧ w = w' := by
 go_enter Tryz.func113, Tryz.ntmps113
 go_wp2
 go_ret
 exact ⟨rfl, rfl⟩
theorem bytes_below (w : World) (e : TypeId) (s : ByteArray) : Below w.heap.size w (Lib.bytesWorld w e s) :=
 ⟨rfl, rfl, rfl, by simp [Lib.bytesWorld, World.freeze], fun k hk => Lib.bytesWorld_at_old w e s k hk⟩
set_option maxHeartbeats 8000000 in
set_option maxRecDepth 100000 in
theorem parse_8 (t : ByteArray) (hne : t.size ≠ 0) (hmax : t.size ≤ 9223372036854775806) (w : World) (hd : ∀ b ∈ t.data.toList, Lx.digit b < 8) :
  Calls Tryz.prog 104 #[.string t, .int .i64 8, .int .i64 31] w fun e w' => e = .returned (parseV (Lx.valueOf 8 t.data.toList)) ∧ Below w.heap.size w w' := by
 have HD := Yq hd
 have hemp : t.toList.isEmpty = false := isEmpty_no hne
 have hcv := Lib.run_convert_string_bytes (P := Tryz.prog) w 9 98 5 t (u := .string) Tryz.underlying9 Tryz.underlying98 Tryz.underlying5
 have hB : ∀ j, j < t.size → (Lib.bytesWorld w 5 t).cell? ⟨w.heap.size, j, none⟩ = some (.int .u8 (t.data.toList.getD j 0).toNat) := fun j hj => Lib.bytesWorld_cell w 5 t j hj
 have Hbel := Yq (bytes_below w 5 t)
 obtain ⟨W1, hW1⟩ : ∃ W1, W1 = Lib.bytesWorld w 5 t := ⟨_, rfl⟩
 rw [← hW1] at hcv hB Hbel
 clear hW1 hd
 obtain ⟨bs, hL⟩ : ∃ bs, bs = t.data.toList := ⟨_, rfl⟩
 have hLn : bs.length = t.size := by rw [hL, Lib.size_eq]
 rw [← hL] at hB HD ⊢
 clear hL
 have hmv : IntKind.u64.wrap (IntKind.u64.wrap 2147483648 - 1) = 2147483647 := by
  rw [IntKind.wrap_u64, IntKind.wrap_u64]
  decide
 have HV := Yq (fun k => valueOf_mono 8 (by decide) bs (bs.length - k) k)
 have HB := Yq hB
 have HLn := Yq hLn
 clear hB hLn
 go_enter Tryz.func104, Tryz.ntmps104
 go_wp2
 go_loop [12, 13, 15, 16, 17, 101] (fun vu vn _ _ _ vi => ∃ (k acc : Nat) (a : Int), vu = .bool false ∧ vn = .int .u64 a ∧ vi = .int .i64 k ∧ k ≤ t.size ∧ Hid (a = (acc : Int) ∧ acc ≤ 2147483647 ∧ acc = Lx.valueOf 8 (bs.take k)))
  (fun _ _ _ _ _ vi => t.size - (intOf vi).toNat)
 case atStart => exact ⟨0, 0, 0, rfl, rfl, rfl, by omega, Yq ⟨rfl, by omega, rfl⟩⟩
 case round =>
  obtain ⟨k, acc, a, rfl, rfl, rfl, hk, hh⟩ := hrel
  obtain ⟨ha, hacc, hav⟩ := hh.out
  have Hacc := Yq hav
  clear hh hav
  have a0 : 0 ≤ a := by omega
  have a1 : a ≤ 2147483647 := by omega
  by_cases hkn : k < t.size
  ·have hc := HB.out k hkn
   have hkl : k < bs.length := by rw [HLn.out]; exact hkn
   have hget : bs.getD k 0 = bs[k] := by simp [List.getD, List.getElem?_eq_getElem hkl]
   have hsucc := valueOf_succ 8 hkl
   have hle := HV.out (k + 1) (by omega)
   have hdig := HD.out bs[k] (List.getElem_mem _)
   rw [hget] at hc
   rw [hsucc, ← Hacc.out] at hle
   rw [← Hacc.out] at hsucc
   generalize bs[k] = c at hc hsucc hle hdig
   have hc256 : c.toNat < 256 := c.toNat_lt
   clear hget hkl
   by_cases h9 : Lx.digit c < 10
   ·obtain ⟨d0, d1, d2⟩ := digit_dec c h9
    rw [d2] at hsucc hle hdig
    have hdz : (c.toNat : Int) - 48 < 8 := by omega
    clear d2 h9
    by_cases hov : 2147483647 < acc * 8 + (c.toNat - 48)
    ·have Hend := Yq (show 2147483647 < Lx.valueOf 8 bs by omega)
     have iov : 2147483647 < a * 8 + ((c.toNat : Int) - 48) := by omega
     clear hov hsucc hle hdig hacc ha
     go_wp2
     go_ret2
     exact ⟨by unfold parseV; rw [if_pos Hend.out]; rfl, Hbel.out⟩
    ·have HN := Yq (show (acc * 8 + (c.toNat - 48) : Nat) = Lx.valueOf 8 (bs.take (k + 1)) from hsucc.symm)
     have iov : a * 8 + ((c.toNat : Int) - 48) ≤ 2147483647 := by omega
     have Hnn := Yq (show acc * 8 + (c.toNat - 48) ≤ 2147483647 by omega)
     have hcast : Hid (((acc * 8 + (c.toNat - 48) : Nat) : Int) = a * 8 + ((c.toNat : Int) - 48)) := Yq (by omega)
     clear hov hsucc hle hdig hacc ha
     go_wp2
     refine ⟨⟨k + 1, acc * 8 + (c.toNat - 48), _, rfl, rfl, by go_num, by omega, Yq ⟨hcast.out.symm, Hnn.out, HN.out⟩⟩, by simp [intOf]; omega⟩
   ·exfalso; omega
  ·have hkk : k = t.size := by omega
   subst hkk
   have Hend := Yq (show acc = Lx.valueOf 8 bs by have h := Hacc.out; rw [List.take_of_length_le (by rw [HLn.out]; exact Nat.le_refl _)] at h; exact h)
   have Hle := Yq hacc
   subst ha
   clear hacc a0 a1
   go_wp2
   go_ret2
   exact ⟨by unfold parseV; rw [← Hend.out, if_neg (by have := Hle.out; omega)]; rfl, Hbel.out⟩
set_option maxHeartbeats 8000000 in
set_option maxRecDepth 100000 in
theorem parse_10 (t : ByteArray) (hne : t.size ≠ 0) (hmax : t.size ≤ 9223372036854775806) (w : World) (hd : ∀ b ∈ t.data.toList, Lx.digit b < 10) :
  Calls Tryz.prog 104 #[.string t, .int .i64 10, .int .i64 31] w fun e w' => e = .returned (parseV (Lx.valueOf 10 t.data.toList)) ∧ Below w.heap.size w w' := by
 have HD := Yq hd
 have hemp : t.toList.isEmpty = false := isEmpty_no hne
 have hcv := Lib.run_convert_string_bytes (P := Tryz.prog) w 9 98 5 t (u := .string) Tryz.underlying9 Tryz.underlying98 Tryz.underlying5
 have hB : ∀ j, j < t.size → (Lib.bytesWorld w 5 t).cell? ⟨w.heap.size, j, none⟩ = some (.int .u8 (t.data.toList.getD j 0).toNat) := fun j hj => Lib.bytesWorld_cell w 5 t j hj
 have Hbel := Yq (bytes_below w 5 t)
 obtain ⟨W1, hW1⟩ : ∃ W1, W1 = Lib.bytesWorld w 5 t := ⟨_, rfl⟩
 rw [← hW1] at hcv hB Hbel
 clear hW1 hd
 obtain ⟨bs, hL⟩ : ∃ bs, bs = t.data.toList := ⟨_, rfl⟩
 have hLn : bs.length = t.size := by rw [hL, Lib.size_eq]
 rw [← hL] at hB HD ⊢
 clear hL
 have hmv : IntKind.u64.wrap (IntKind.u64.wrap 2147483648 - 1) = 2147483647 := by
  rw [IntKind.wrap_u64, IntKind.wrap_u64]
  decide
 have HV := Yq (fun k => valueOf_mono 10 (by decide) bs (bs.length - k) k)
 have HB := Yq hB
 have HLn := Yq hLn
 clear hB hLn
 go_enter Tryz.func104, Tryz.ntmps104
 go_wp2
 go_loop [12, 13, 15, 16, 17, 101] (fun vu vn _ _ _ vi => ∃ (k acc : Nat) (a : Int), vu = .bool false ∧ vn = .int .u64 a ∧ vi = .int .i64 k ∧ k ≤ t.size ∧ Hid (a = (acc : Int) ∧ acc ≤ 2147483647 ∧ acc = Lx.valueOf 10 (bs.take k)))
  (fun _ _ _ _ _ vi => t.size - (intOf vi).toNat)
 case atStart => exact ⟨0, 0, 0, rfl, rfl, rfl, by omega, Yq ⟨rfl, by omega, rfl⟩⟩
 case round =>
  obtain ⟨k, acc, a, rfl, rfl, rfl, hk, hh⟩ := hrel
  obtain ⟨ha, hacc, hav⟩ := hh.out
  have Hacc := Yq hav
  clear hh hav
  have a0 : 0 ≤ a := by omega
  have a1 : a ≤ 2147483647 := by omega
  by_cases hkn : k < t.size
  ·have hc := HB.out k hkn
   have hkl : k < bs.length := by rw [HLn.out]; exact hkn
   have hget : bs.getD k 0 = bs[k] := by simp [List.getD, List.getElem?_eq_getElem hkl]
   have hsucc := valueOf_succ 10 hkl
   have hle := HV.out (k + 1) (by omega)
   have hdig := HD.out bs[k] (List.getElem_mem _)
   rw [hget] at hc
   rw [hsucc, ← Hacc.out] at hle
   rw [← Hacc.out] at hsucc
   generalize bs[k] = c at hc hsucc hle hdig
   have hc256 : c.toNat < 256 := c.toNat_lt
   clear hget hkl
   by_cases h9 : Lx.digit c < 10
   ·obtain ⟨d0, d1, d2⟩ := digit_dec c h9
    rw [d2] at hsucc hle hdig
    have hdz : (c.toNat : Int) - 48 < 10 := by omega
    clear d2 h9
    by_cases hov : 2147483647 < acc * 10 + (c.toNat - 48)
    ·have Hend := Yq (show 2147483647 < Lx.valueOf 10 bs by omega)
     have iov : 2147483647 < a * 10 + ((c.toNat : Int) - 48) := by omega
     clear hov hsucc hle hdig hacc ha
     go_wp2
     go_ret2
     exact ⟨by unfold parseV; rw [if_pos Hend.out]; rfl, Hbel.out⟩
    ·have HN := Yq (show (acc * 10 + (c.toNat - 48) : Nat) = Lx.valueOf 10 (bs.take (k + 1)) from hsucc.symm)
     have iov : a * 10 + ((c.toNat : Int) - 48) ≤ 2147483647 := by omega
     have Hnn := Yq (show acc * 10 + (c.toNat - 48) ≤ 2147483647 by omega)
     have hcast : Hid (((acc * 10 + (c.toNat - 48) : Nat) : Int) = a * 10 + ((c.toNat : Int) - 48)) := Yq (by omega)
     clear hov hsucc hle hdig hacc ha
     go_wp2
     refine ⟨⟨k + 1, acc * 10 + (c.toNat - 48), _, rfl, rfl, by go_num, by omega, Yq ⟨hcast.out.symm, Hnn.out, HN.out⟩⟩, by simp [intOf]; omega⟩
   ·exfalso; omega
  ·have hkk : k = t.size := by omega
   subst hkk
   have Hend := Yq (show acc = Lx.valueOf 10 bs by have h := Hacc.out; rw [List.take_of_length_le (by rw [HLn.out]; exact Nat.le_refl _)] at h; exact h)
   have Hle := Yq hacc
   subst ha
   clear hacc a0 a1
   go_wp2
   go_ret2
   exact ⟨by unfold parseV; rw [← Hend.out, if_neg (by have := Hle.out; omega)]; rfl, Hbel.out⟩
set_option maxHeartbeats 8000000 in
set_option maxRecDepth 100000 in
theorem parse_16 (t : ByteArray) (hne : t.size ≠ 0) (hmax : t.size ≤ 9223372036854775806) (w : World) (hd : ∀ b ∈ t.data.toList, Lx.digit b < 16) :
  Calls Tryz.prog 104 #[.string t, .int .i64 16, .int .i64 31] w fun e w' => e = .returned (parseV (Lx.valueOf 16 t.data.toList)) ∧ Below w.heap.size w w' := by
 have HD := Yq hd
 have hemp : t.toList.isEmpty = false := isEmpty_no hne
 have hcv := Lib.run_convert_string_bytes (P := Tryz.prog) w 9 98 5 t (u := .string) Tryz.underlying9 Tryz.underlying98 Tryz.underlying5
 have hB : ∀ j, j < t.size → (Lib.bytesWorld w 5 t).cell? ⟨w.heap.size, j, none⟩ = some (.int .u8 (t.data.toList.getD j 0).toNat) := fun j hj => Lib.bytesWorld_cell w 5 t j hj
 have Hbel := Yq (bytes_below w 5 t)
 obtain ⟨W1, hW1⟩ : ∃ W1, W1 = Lib.bytesWorld w 5 t := ⟨_, rfl⟩
 rw [← hW1] at hcv hB Hbel
 clear hW1 hd
 obtain ⟨bs, hL⟩ : ∃ bs, bs = t.data.toList := ⟨_, rfl⟩
 have hLn : bs.length = t.size := by rw [hL, Lib.size_eq]
 rw [← hL] at hB HD ⊢
 clear hL
 have hmv : IntKind.u64.wrap (IntKind.u64.wrap 2147483648 - 1) = 2147483647 := by
  rw [IntKind.wrap_u64, IntKind.wrap_u64]
  decide
 have HV := Yq (fun k => valueOf_mono 16 (by decide) bs (bs.length - k) k)
 have HB := Yq hB
 have HLn := Yq hLn
 clear hB hLn
 go_enter Tryz.func104, Tryz.ntmps104
 go_wp2
 go_loop [12, 13, 15, 16, 17, 101] (fun vu vn _ _ _ vi => ∃ (k acc : Nat) (a : Int), vu = .bool false ∧ vn = .int .u64 a ∧ vi = .int .i64 k ∧ k ≤ t.size ∧ Hid (a = (acc : Int) ∧ acc ≤ 2147483647 ∧ acc = Lx.valueOf 16 (bs.take k)))
  (fun _ _ _ _ _ vi => t.size - (intOf vi).toNat)
 case atStart => exact ⟨0, 0, 0, rfl, rfl, rfl, by omega, Yq ⟨rfl, by omega, rfl⟩⟩
 case round =>
  obtain ⟨k, acc, a, rfl, rfl, rfl, hk, hh⟩ := hrel
  obtain ⟨ha, hacc, hav⟩ := hh.out
  have Hacc := Yq hav
  clear hh hav
  have a0 : 0 ≤ a := by omega
  have a1 : a ≤ 2147483647 := by omega
  by_cases hkn : k < t.size
  ·have hc := HB.out k hkn
   have hkl : k < bs.length := by rw [HLn.out]; exact hkn
   have hget : bs.getD k 0 = bs[k] := by simp [List.getD, List.getElem?_eq_getElem hkl]
   have hsucc := valueOf_succ 16 hkl
   have hle := HV.out (k + 1) (by omega)
   have hdig := HD.out bs[k] (List.getElem_mem _)
   rw [hget] at hc
   rw [hsucc, ← Hacc.out] at hle
   rw [← Hacc.out] at hsucc
   generalize bs[k] = c at hc hsucc hle hdig
   have hc256 : c.toNat < 256 := c.toNat_lt
   clear hget hkl
   by_cases h9 : Lx.digit c < 10
   ·obtain ⟨d0, d1, d2⟩ := digit_dec c h9
    rw [d2] at hsucc hle hdig
    have hdz : (c.toNat : Int) - 48 < 16 := by omega
    clear d2 h9
    by_cases hov : 2147483647 < acc * 16 + (c.toNat - 48)
    ·have Hend := Yq (show 2147483647 < Lx.valueOf 16 bs by omega)
     have iov : 2147483647 < a * 16 + ((c.toNat : Int) - 48) := by omega
     clear hov hsucc hle hdig hacc ha
     go_wp2
     go_ret2
     exact ⟨by unfold parseV; rw [if_pos Hend.out]; rfl, Hbel.out⟩
    ·have HN := Yq (show (acc * 16 + (c.toNat - 48) : Nat) = Lx.valueOf 16 (bs.take (k + 1)) from hsucc.symm)
     have iov : a * 16 + ((c.toNat : Int) - 48) ≤ 2147483647 := by omega
     have Hnn := Yq (show acc * 16 + (c.toNat - 48) ≤ 2147483647 by omega)
     have hcast : Hid (((acc * 16 + (c.toNat - 48) : Nat) : Int) = a * 16 + ((c.toNat : Int) - 48)) := Yq (by omega)
     clear hov hsucc hle hdig hacc ha
     go_wp2
     refine ⟨⟨k + 1, acc * 16 + (c.toNat - 48), _, rfl, rfl, by go_num, by omega, Yq ⟨hcast.out.symm, Hnn.out, HN.out⟩⟩, by simp [intOf]; omega⟩
   ·obtain ⟨d0, d1, d2⟩ := digit_hex c hdig (by omega)
    have h95 : ((c.toNat : Int) == 95) = false := by rw [beq_eq_false_iff_ne]; omega
    have HL : Hid (∀ w0, Calls Tryz.prog 113 #[.int .u8 c.toNat] w0 fun e w' => e = .returned (.int .u8 ((Lx.digit c : Int) + 87)) ∧ w0 = w') := Yq (fun w0 => by
     have := lower_any c.toNat w0
     rw [d2] at this
     push_cast at this
     exact this)
    obtain ⟨d, hd0⟩ : ∃ d, d = Lx.digit c := ⟨_, rfl⟩
    rw [← hd0] at hsucc hle hdig HL h9
    have hd16 : (d : Int) + 87 - 97 + 10 < 16 := by omega
    clear d1 d2 hd0
    by_cases hov : 2147483647 < acc * 16 + d
    ·have Hend := Yq (show 2147483647 < Lx.valueOf 16 bs by omega)
     have iov : 2147483647 < a * 16 + (d : Int) := by omega
     have iov2 : 2147483647 < a * 16 + ((d : Int) + 87 - 97 + 10) := by omega
     clear hov hsucc hle hdig hacc ha
     go_wp2_with (go_at_call 113; (with_reducible refine (HL.out _).mono ?_); rintro e w' ⟨rfl, rfl⟩)
     go_ret2
     exact ⟨by unfold parseV; rw [if_pos Hend.out]; rfl, Hbel.out⟩
    ·have HN := Yq (show (acc * 16 + d : Nat) = Lx.valueOf 16 (bs.take (k + 1)) from hsucc.symm)
     have iov : a * 16 + (d : Int) ≤ 2147483647 := by omega
     have iov2 : a * 16 + ((d : Int) + 87 - 97 + 10) ≤ 2147483647 := by omega
     have Hnn := Yq (show acc * 16 + d ≤ 2147483647 by omega)
     have hcast : Hid (((acc * 16 + d : Nat) : Int) = a * 16 + ((d : Int) + 87 - 97 + 10)) := Yq (by omega)
     clear hov hsucc hle hdig hacc ha
     go_wp2_with (go_at_call 113; (with_reducible refine (HL.out _).mono ?_); rintro e w' ⟨rfl, rfl⟩)
     refine ⟨⟨k + 1, acc * 16 + d, _, rfl, rfl, by go_num, by omega, Yq ⟨hcast.out.symm, Hnn.out, HN.out⟩⟩, by simp [intOf]; omega⟩
  ·have hkk : k = t.size := by omega
   subst hkk
   have Hend := Yq (show acc = Lx.valueOf 16 bs by have h := Hacc.out; rw [List.take_of_length_le (by rw [HLn.out]; exact Nat.le_refl _)] at h; exact h)
   have Hle := Yq hacc
   subst ha
   clear hacc a0 a1
   go_wp2
   go_ret2
   exact ⟨by unfold parseV; rw [← Hend.out, if_neg (by have := Hle.out; omega)]; rfl, Hbel.out⟩
theorem decode_skip (s : ByteArray) (pos : Nat) (h : pos < s.size) (ha : 128 ≤ (s[pos]'h).toNat) : pos + (Utf8.decode s pos).2 ≤ s.size ∧ ∀ j (hj : j < s.size), pos ≤ j → j < pos + (Utf8.decode s pos).2 → 128 ≤ (s[j]'hj).toNat := by
 have hg : ∀ k (hk : pos + k < s.size), s.get! (pos + k) = s[pos + k]'hk := fun k hk => by
  show s.get! _ = _
  simp [ByteArray.get!, getElem!_pos, hk]
  rfl
 have hn : ¬ (s[pos]'h).toNat < 128 := by omega
 have key : ∀ n : Nat, pos + n ≤ s.size → (∀ k, k < n → 0 < k → ∃ hk : pos + k < s.size, 128 ≤ (s[pos + k]'hk).toNat) → pos + n ≤ s.size ∧ ∀ j (hj : j < s.size), pos ≤ j → j < pos + n → 128 ≤ (s[j]'hj).toNat := fun n h1 h2 => ⟨h1, fun j hj h3 h4 => by
  obtain ⟨k, rfl⟩ : ∃ k, j = pos + k := ⟨j - pos, by omega⟩
  by_cases hk : k = 0
  ·subst hk; exact ha
  ·exact (h2 k (by omega) (by omega)).2⟩
 have c : ∀ k, (decide (pos + k < s.size) && (s.get! (pos + k)).toNat / 64 == 2) = true → ∃ hk : pos + k < s.size, 128 ≤ (s[pos + k]'hk).toNat := fun k hk => by
  rw [Bool.and_eq_true, decide_eq_true_iff, beq_iff_eq] at hk
  refine ⟨hk.1, ?_⟩
  have := hk.2
  rw [hg k hk.1] at this
  omega
 simp only [Utf8.decode, get_at s pos h, hn, if_false]
 have one : pos + 1 ≤ s.size ∧ ∀ j (hj : j < s.size), pos ≤ j → j < pos + 1 → 128 ≤ (s[j]'hj).toNat := key 1 (by omega) (fun k hk h0 => by omega)
 split
 ·rename_i h1
  rw [Bool.and_eq_true] at h1
  have h1' := c 1 h1.2
  split
  ·exact key 2 (by have := h1'.1; omega) (fun k hk h0 => by
    obtain rfl : k = 1 := by omega
    exact h1')
  ·exact one
 ·split
  ·rename_i h1
   rw [Bool.and_eq_true, Bool.and_eq_true] at h1
   have h1' := c 1 h1.1.2
   have h2' := c 2 h1.2
   split
   ·exact key 3 (by have := h2'.1; omega) (fun k hk h0 => by
     rcases (show k = 1 ∨ k = 2 by omega) with rfl | rfl
     ·exact h1'
     ·exact h2')
   ·exact one
  ·split
   ·rename_i h1
    rw [Bool.and_eq_true, Bool.and_eq_true, Bool.and_eq_true] at h1
    have h1' := c 1 h1.1.1.2
    have h2' := c 2 h1.1.2
    have h3' := c 3 h1.2
    split
    ·exact key 4 (by have := h3'.1; omega) (fun k hk h0 => by
      rcases (show k = 1 ∨ k = 2 ∨ k = 3 by omega) with rfl | rfl | rfl
      ·exact h1'
      ·exact h2'
      ·exact h3')
    ·exact one
   ·exact one
def HiText (e : ByteArray) : Prop := 2 ≤ e.size ∧ e.size ≤ 4 ∧ ∀ (h1 : 1 < e.size), e.size = 2 → 128 ≤ (e[1]'h1).toNat
theorem encode_hi (r : Int) (h : 128 ≤ r) : HiText (Utf8.encode r) := by
 have hc : 128 ≤ (if Utf8.valid r = true then r.toNat else Utf8.runeError) := by
  split
  ·omega
  ·unfold Utf8.runeError; omega
 unfold Utf8.encode
 simp only
 generalize (if Utf8.valid r = true then r.toNat else Utf8.runeError) = c at hc
 split
 ·omega
 ·split
  ·refine ⟨by show 2 ≤ 2; omega, by show 2 ≤ 4; omega, fun h1 _ => ?_⟩
   show 128 ≤ (UInt8.ofNat (0x80 + c % 64)).toNat
   rw [UInt8.toNat_ofNat']; omega
  ·split
   ·exact ⟨by show 2 ≤ 3; omega, by show 3 ≤ 4; omega, fun h1 h2 => absurd (show (3 : Nat) = 2 from h2) (by omega)⟩
   ·exact ⟨by show 2 ≤ 4; omega, by show 4 ≤ 4; omega, fun h1 h2 => absurd (show (4 : Nat) = 2 from h2) (by omega)⟩
def badL : ByteArray := ⟨#[92, 10]⟩
set_option maxHeartbeats 4000000 in
set_option maxRecDepth 100000 in
theorem idxrune_hi (r : Int) (h : 128 ≤ r) (hr : r ≤ 2147483647) (w : World) :
  Calls Tryz.prog 106 #[.string badL, .int .i32 r] w fun e w' => e = .returned (.int .i64 (-1)) ∧ Below w.heap.size w w' := by
 by_cases h1 : r = 65533
 ·subst h1
  unfold badL
  have hr0 : ∀ ty, (Instr.next (.pointer (some ⟨w.heap.size, 0, none⟩)) true ty).run Tryz.prog (w.iter ⟨#[92, 10]⟩ 0) = .ok (.tuple #[.bool true, .int .i64 0, .int .i32 92]) (w.iter ⟨#[92, 10]⟩ 1) := fun ty => run_next_ascii (P := Tryz.prog) w ⟨#[92, 10]⟩ 0 ty (by decide) (by decide)
  have hr1 : ∀ ty, (Instr.next (.pointer (some ⟨w.heap.size, 0, none⟩)) true ty).run Tryz.prog (w.iter ⟨#[92, 10]⟩ 1) = .ok (.tuple #[.bool true, .int .i64 1, .int .i32 10]) (w.iter ⟨#[92, 10]⟩ 2) := fun ty => run_next_ascii (P := Tryz.prog) w ⟨#[92, 10]⟩ 1 ty (by decide) (by decide)
  have hr2 : ∀ ty, (Instr.next (.pointer (some ⟨w.heap.size, 0, none⟩)) true ty).run Tryz.prog (w.iter ⟨#[92, 10]⟩ 2) = .ok (.tuple #[.bool false]) (w.iter ⟨#[92, 10]⟩ 2) := fun ty => run_next_end (P := Tryz.prog) w ⟨#[92, 10]⟩ 2 ty (by decide)
  go_enter Tryz.func106, Tryz.ntmps106
  go_wp2
  refine wp_loop_rounds 3 ?_
  rw [rounds_succ]
  go_wp2
  rw [rounds_succ]
  go_wp2
  rw [rounds_succ]
  go_wp2
  go_ret
  exact ⟨rfl, (Below.refl _ _).alloc (Nat.le_refl _) _⟩
 ·have h1' : (r == 65533) = false := beq_eq_false_iff_ne.2 h1
  have HV := Yq (fun w0 => Tryz.utf8_ValidRune r w0)
  have ⟨he1, he3, he2⟩ := encode_hi r h
  obtain ⟨e, he⟩ : ∃ e, e = Utf8.encode r := ⟨_, rfl⟩
  rw [← he] at he1 he2 he3
  have hconv : ∀ W, (convert 21 9 (.int .i32 r)).run Tryz.prog W = .ok (.string e) W := fun W => by
   subst he
   simp [convert, run_underlying Tryz.underlying21, run_underlying Tryz.underlying9, Conv.intToString]
  cases hv : Lib.validRune r
  ·rw [hv] at HV
   clear hv h1
   unfold badL
   go_enter Tryz.func106, Tryz.ntmps106
   go_wp2_with fail
   refine (HV.out _).mono ?_
   rintro e w' ⟨rfl, rfl⟩
   go_wp2_with fail
   go_ret
   exact ⟨rfl, Below.refl _ _⟩
  ·rw [hv] at HV
   clear hv h1 he
   unfold badL
   by_cases h2 : e.size = 2
   ·have hlt : 1 < e.size := by omega
    have hb : 128 ≤ (e[1]'hlt).toNat := he2 hlt h2
    have hne : ((10 : Int) != ((e[1]'hlt).toNat : Int)) = true := by rw [bne_iff_ne]; omega
    have hne2 : ((((⟨#[92, 10]⟩ : ByteArray)[1]'(by decide)).toNat : Int) != ((e[1]'hlt).toNat : Int)) = true := hne
    have HX := Yq (fun w0 => idxbyte_any ⟨#[]⟩ (e[1]'hlt) w0)
    clear he2
    go_enter Tryz.func106, Tryz.ntmps106
    go_wp2_with fail
    refine (HV.out _).mono ?_
    rintro e w' ⟨rfl, rfl⟩
    go_wp2_with fail
    go_step3
    go_wp2
    refine wp_loop_rounds 1 ?_
    rw [rounds_succ]
    go_wp2
    go_step3
    go_wp2
    go_quiet (fail)
    go_wp2
    generalize hw2 : w'.drewN nq = w2
    have Hw2 := Yq (hw2 ▸ Below.drewN (Below.refl w'.heap.size w') nq : Below w'.heap.size w' w2)
    clear hw2
    go_quiet ((go_at_call 41; exact Calls.quiet_of_same ((HX.out _).mono fun e w1 h => ⟨h.1, h.2.symm⟩)))
    go_wp2
    simp only [Exit.noGoto_ret]
    go_wp2
    (repeat rw [Exit.noGoto_ret])
    go_ret
    exact ⟨rfl, Below.drewN Hw2.out _⟩
   ·have h3 : 2 ≤ (e.size : Int) - 1 := by omega
    have h4 : decide ((e.size : Int) - 1 < 2) = false := decide_eq_false (by omega)
    clear he2
    go_enter Tryz.func106, Tryz.ntmps106
    go_wp2_with fail
    refine (HV.out _).mono ?_
    rintro e w' ⟨rfl, rfl⟩
    go_wp2_with fail
    go_step3
    go_wp2
    refine wp_loop_rounds 1 ?_
    rw [rounds_succ]
    go_wp2
    (try rw [Exit.noGoto_ret])
    go_ret
    exact ⟨rfl, Below.refl _ _⟩
theorem bad_hi {b : UInt8} (h : 128 ≤ b.toNat) : ([92, 10] : Lx.Bs).contains b = false := by
 simp only [List.contains_cons, List.contains_nil, Bool.or_false, Bool.or_eq_false_iff, beq_eq_false_iff_ne]
 exact ⟨fun e => by subst e; exact absurd h (by decide), fun e => by subst e; exact absurd h (by decide)⟩
set_option maxHeartbeats 4000000 in
set_option maxRecDepth 100000 in
theorem idxany_short (s : ByteArray) (w : World) (h8 : s.size ≤ 8) :
  Calls Tryz.prog 97 #[.string s, .string badL] w fun e w' => e = .returned (.int .i64 (Lib.indexAny s.data.toList [92, 10])) ∧ Below w.heap.size w w' := by
 have h8z : decide ((8 : Int) < (s.size : Int)) = false := decide_eq_false (by omega)
 have HS := Yq (fun w0 => Tryz.strings_shouldUseASCIISet s.size w0)
 rw [h8z] at HS
 unfold badL
 go_enter Tryz.func97, Tryz.ntmps97
 go_wp2_with fail
 refine (HS.out _).mono ?_
 rintro e w' ⟨rfl, rfl⟩
 go_wp2_with fail
 go_loopg [9, 10] s.size (fun g _ _ wx => ∃ i : Nat, i + g = s.size ∧ wx.heap[w'.heap.size]? = some (.stringIter s i) ∧ Below w'.heap.size w' wx ∧ Hid (Lib.NoAny s.data.toList [92, 10] i))
 case atStart => exact ⟨0, by omega, World.iter_heap _ _ _, (Below.refl _ _).alloc (Nat.le_refl _) _, Yq (Lib.NoAny.zero _ _)⟩
 case round =>
  obtain ⟨i, hig, hk, hbel, HN⟩ := hrel
  by_cases hi : i < s.size
  ·obtain ⟨x, hx⟩ : ∃ x : UInt8, s[i]'hi = x := ⟨_, rfl⟩
   have hxl : s.data.toList[i]? = some x := by rw [← hx]; exact Lib.data_getElem? s i hi
   by_cases hx128 : x.toNat < 128
   ·have hnx := fun ty => Lib.run_next_ascii_at (P := Tryz.prog) wr w'.heap.size s i ty hk hi (by rw [hx]; exact hx128)
    rw [hx] at hnx
    have Hk2 := Yq (Lib.iterAt_heap wr w'.heap.size s i (i + 1) hk)
    have Hb2 := Yq (Lib.below_iterAt hbel (Nat.le_refl _) s (i + 1))
    have Hx : Hid (s.data.toList[i]? = some x) := Yq hxl
    have hback : ((x.toNat : Int)).toNat.toUInt8 = x := by simp
    have HR : Hid (∀ w0, Calls Tryz.prog 106 #[.string ⟨#[92, 10]⟩, .int .i32 x.toNat] w0 fun e w' => e = .returned (.int .i64 (Lib.indexByte [92, 10] x)) ∧ w0 = w') := Yq (fun w0 =>
     (Tryz.strings_IndexRune_ascii ⟨#[92, 10]⟩ x.toNat w0 (by omega) (by omega)).mono fun e w' h => ⟨by rw [hback] at h; exact h.1, h.2.symm⟩)
    have hcon := Lib.contains_iff_indexByte [92, 10] x
    clear hx hxl hback hk hbel
    cases hin : ([92, 10] : Lx.Bs).contains x
    ·rw [hin] at hcon
     have hlt : Lib.indexByte [92, 10] x < 0 := by have := of_decide_eq_false hcon.symm; omega
     have Hin := Yq hin
     clear hcon hin
     generalize Lib.indexByte [92, 10] x = y at *
     go_wp2_with fail
     refine (HR.out _).mono ?_
     rintro e w2 ⟨rfl, rfl⟩
     go_wp2_with fail
     go_roundg (s.size - (i + 1))
     case measure => omega
     case rel => exact ⟨i + 1, by omega, Hk2.out, Hb2.out, Yq (HN.out.succ Hx.out Hin.out)⟩
    ·rw [hin] at hcon
     have hge : 0 ≤ Lib.indexByte [92, 10] x := of_decide_eq_true hcon.symm
     have Hin := Yq hin
     clear hcon hin
     generalize Lib.indexByte [92, 10] x = y at *
     go_wp2_with fail
     refine (HR.out _).mono ?_
     rintro e w2 ⟨rfl, rfl⟩
     go_wp2_with fail
     go_ret
     exact ⟨by rw [Lib.indexAny_hit HN.out Hx.out Hin.out]; rfl, Hb2.out⟩
   ·have ha : 128 ≤ (s[i]'hi).toNat := by rw [hx]; omega
    have hnx := fun ty => Lib.run_next_any_at (P := Tryz.prog) wr w'.heap.size s i ty hk hi
    have hd := decode_high s i hi ha
    have hdl := decode_le s i
    have hsk := decode_skip s i hi ha
    obtain ⟨r, hr⟩ : ∃ r, r = (Utf8.decode s i).1 := ⟨_, rfl⟩
    obtain ⟨n, hn⟩ : ∃ n, n = (Utf8.decode s i).2 := ⟨_, rfl⟩
    rw [← hr] at hnx hd hdl
    rw [← hn] at hnx hd hsk
    have Hk2 := Yq (Lib.iterAt_heap wr w'.heap.size s i (i + n) hk)
    have Hb2 := Yq (Lib.below_iterAt hbel (Nat.le_refl _) s (i + n))
    have HN2 : Hid (Lib.NoAny s.data.toList [92, 10] (i + n)) := Yq (fun j b hj hb => by
     by_cases hji : j < i
     ·exact HN.out j b hji hb
     ·have hjs : j < s.size := by omega
      rw [Lib.data_getElem? s j hjs] at hb
      cases hb
      exact bad_hi (hsk.2 j hjs (by omega) hj))
    have HR := Yq (fun w0 => idxrune_hi r (by omega) (by omega) w0)
    unfold badL at HR
    have hle := hsk.1
    have h1n := hd.2
    have Hsz : Hid (w'.heap.size < (wr.iterAt w'.heap.size s (i + n)).heap.size) := Yq (Array.getElem?_eq_some_iff.1 Hk2.out).1
    clear hx hxl hk hbel hsk hd hr hn ha hx128
    go_wp2_with fail
    refine (HR.out _).mono ?_
    rintro e w2 ⟨rfl, hb3⟩
    have Hk3 := Yq ((hb3.block _ Hsz.out).trans Hk2.out)
    have Hb3 := Yq (Hb2.out.trans (hb3.mono Hb2.out.size))
    clear hb3
    go_wp2_with fail
    go_roundg (s.size - (i + n))
    case measure => omega
    case rel => exact ⟨i + n, by omega, Hk3.out, Hb3.out, HN2⟩
  ·have hnx := fun ty => Lib.run_next_end_at (P := Tryz.prog) wr w'.heap.size s i ty hk hi
   have Hb2 := Yq hbel
   have hie : i = s.data.toList.length := by rw [len_data]; omega
   have Hie := Yq hie
   clear hk hbel hie
   go_wp2
   go_ret
   exact ⟨by rw [Lib.indexAny_none (Hie.out ▸ HN.out)]; rfl, Hb2.out⟩
end Go.Proofs.YtpcfdngnmigkfaaGreatDoor
