/- The law KindsTell, walked. -/
import Derived.Test.YthbodncgppfdfaaDoorKindsFitLaw
namespace Go.Proofs.YthbodncgppfdfaaDoor
open Go.RowKit
open Kinds (num)
set_option linter.unusedVariables false

theorem wk_le (name : ByteArray) : ∀ k, wk name k ≤ k
  | 0 => Nat.le_refl _
  | k + 1 => by unfold wk; split; exact Nat.le_refl _; exact Nat.le_succ_of_le (wk_le name k)

theorem kname_nat {k : Nat} (h1 : 1 ≤ k) (h2 : k ≤ 15) : kname (k : Int) = nameOf k := by
  unfold kname; rw [if_pos ⟨by omega, by omega⟩, Int.toNat_natCast]

/-- the loop of the law at its head -/
def TellRel (name : ByteArray) (w : World) (want k : Value) (wr : World) : Prop :=
  ∃ i : Nat, 1 ≤ i ∧ i ≤ 16 ∧ k = .int .i64 i ∧ want = .int .i64 (wk name (i - 1) : Nat) ∧ Below w.heap.size w wr

set_option maxRecDepth 100000 in
set_option maxHeartbeats 2000000 in
theorem kindsTell_walk (w : World) (hL : Laid w) (k : Int) (hk : (Lit.int .i64 k).wf = true) (name : ByteArray) (hn : name.size ≤ maxLen) :
    Calls Tryd.prog 3 #[.int .i64 k, .string name] w fun e w' => e = .returned (.bool true) ∧ Below w.heap.size w w' := by
  have H0 := Lib.hid (alive10 w hL)
  unfold maxLen at hn
  by_cases hbig : (name.size : Int) > 100
  · clear hk hL
    go_enter Tryd.func3, Tryd.ntmps3
    go_wp2_with fail
    refine H0.out.mono ?_
    rintro e w' ⟨rfl, rfl⟩
    go_wp2_with fail
    go_ret
    exact ⟨rfl, Below.refl _ _⟩
  have H1 := Lib.hid (of_any name w hL)
  have HL := Lib.hid hL
  clear hk hL
  go_enter Tryd.func3, Tryd.ntmps3
  go_wp2_with fail
  refine H0.out.mono ?_
  rintro e w' ⟨rfl, rfl⟩
  go_wp2_with fail
  refine H1.out.mono ?_
  rintro e w' ⟨rfl, rfl⟩
  go_wp2_with fail
  go_loopw [7, 8] (TellRel name w) (fun _ i _ => 16 - (intOf i).toNat)
  case atStart => exact ⟨1, by omega, by omega, rfl, rfl, Below.refl _ _⟩
  case round =>
    obtain ⟨i, hi1, hi2, rfl, rfl, hbel⟩ := hrel
    by_cases hlt : i ≤ 15
    · have H2 := Lib.hid (rname_any i wr)
      rw [kname_nat hi1 hlt] at H2
      have hwle := wk_le name (i - 1)
      by_cases he : nameOf i = name
      · have hb : ((nameOf i).toList == name.toList) = true := str_eq he
        have Hw : Hid (wk name (i + 1 - 1) = i) := by
          show _ = _
          rw [Nat.add_sub_cancel]
          obtain ⟨j, rfl⟩ : ∃ j, i = j + 1 := ⟨i - 1, by omega⟩
          unfold wk; rw [if_pos he]
        clear he
        go_wp2_with fail
        refine H2.out.mono ?_
        rintro e w1 ⟨rfl, hb1⟩
        go_wp2_with fail
        go_roundw
        case rel => exact ⟨i + 1, by omega, by omega, by go_num, by rw [Hw.out], hbel.trans (hb1.mono hbel.size)⟩
        case measure => simp [intOf]; omega
      · have hb : ((nameOf i).toList == name.toList) = false := str_ne he
        have Hw : Hid (wk name (i + 1 - 1) = wk name (i - 1)) := by
          show _ = _
          rw [Nat.add_sub_cancel]
          obtain ⟨j, rfl⟩ : ∃ j, i = j + 1 := ⟨i - 1, by omega⟩
          rw [Nat.add_sub_cancel]
          conv => lhs; unfold wk
          rw [if_neg he]
        clear he
        go_wp2_with fail
        refine H2.out.mono ?_
        rintro e w1 ⟨rfl, hb1⟩
        go_wp2_with fail
        go_roundw
        case rel => exact ⟨i + 1, by omega, by omega, by go_num, by rw [Hw.out], hbel.trans (hb1.mono hbel.size)⟩
        case measure => simp [intOf]; omega
    · obtain rfl : i = 16 := by omega
      have hLr : Laid wr := HL.out.keep hbel
      have H2 := Lib.hid (rnumber_any k wr)
      have H3 := Lib.hid (name_any k wr hLr)
      have H4 := Lib.hid (rname_any k wr)
      have H5 := Lib.hid (fun w0 => number_any k w0)
      have H6 := Lib.hid (fun w0 => packs_any k w0)
      have H7 := Lib.hid (fun w0 => keys_any k w0)
      have H8 := Lib.hid (fun w0 => rkeys_any k w0)
      have H9 := Lib.hid (fun w0 => wire_any k w0)
      have H10 := Lib.hid (fun w0 => rwire_any k w0)
      clear hLr
      generalize num k = nk at *
      generalize kname k = kn at *
      generalize keysI k = kk at *
      generalize wireI k = kw at *
      generalize wk name 15 = q at *
      go_wp2_with fail
      refine H2.out.mono ?_
      rintro e w' ⟨rfl, rfl⟩
      have hqq : ((q : Int) == (q : Int)) = true := by simp
      have hqd : (decide (0 < q) == decide (0 < (q : Int))) = true := by simp
      go_wp2_with fail
      refine H3.out.mono ?_
      rintro e w' ⟨rfl, rfl⟩
      go_wp2_with fail
      refine H4.out.mono ?_
      rintro e w1 ⟨rfl, hb1⟩
      go_wp2_with fail
      refine (H5.out _).mono ?_
      rintro e w' ⟨rfl, rfl⟩
      go_wp2_with fail
      refine (H6.out _).mono ?_
      rintro e w' ⟨rfl, rfl⟩
      go_wp2_with fail
      refine (H7.out _).mono ?_
      rintro e w' ⟨rfl, rfl⟩
      go_wp2_with fail
      refine (H8.out _).mono ?_
      rintro e w' ⟨rfl, rfl⟩
      go_wp2_with fail
      refine (H9.out _).mono ?_
      rintro e w' ⟨rfl, rfl⟩
      go_wp2_with fail
      refine (H10.out _).mono ?_
      rintro e w' ⟨rfl, rfl⟩
      go_wp2_with fail
      go_ret
      exact ⟨ret_bool (by simp), hbel.trans (hb1.mono hbel.size)⟩

end Go.Proofs.YthbodncgppfdfaaDoor
