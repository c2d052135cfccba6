/- Package lexer, walked: remarks. -/
import Derived.Test.YtiopcdbginnflaaGreatDoorLxPass
namespace Go.Proofs.YtiopcdbginnflaaGreatDoor
open Go.RowKit
set_option linter.unusedVariables false
set_option linter.unusedSimpArgs false

/-- one remark's bytes: none: there is none; some none: it has no end -/
def rem1 (l : Lx.Bs) : Option (Option Nat) :=
  if l.take 2 = [47, 47] then some (some (Lx.run (· != 10) l))
  else if l.take 2 = [47, 42] then some ((Lx.idx2 (l.drop 2)).map (· + 4))
  else none
theorem gap1_rem (l : Lx.Bs) (h : Lx.run Lx.isGap l = 0) : Lx.gap1 l = rem1 l := by
  unfold Lx.gap1 rem1; rw [if_neg (by omega)]
theorem prefix_take (a b : UInt8) (l : Lx.Bs) : Lib.hasPrefix l [a, b] = decide (l.take 2 = [a, b]) := by
  unfold Lib.hasPrefix
  rw [Bool.eq_iff_iff, List.isPrefixOf_iff_prefix, List.prefix_iff_eq_take, decide_eq_true_iff]
  constructor <;> intro h <;> exact h.symm
theorem byte_run : ∀ (l : Lx.Bs), (Lib.indexByte l 10 < 0 ∧ Lx.run (· != 10) l = l.length) ∨ Lib.indexByte l 10 = (Lx.run (· != 10) l : Nat)
  | [] => .inl ⟨by decide, rfl⟩
  | b :: r => by
    have ih := byte_run r
    rw [Lib.indexByte, Lx.run_cons]
    by_cases h : b = 10
    · subst h; right; simp
    · have hn : ¬ ((b == 10) = true) := by rw [beq_iff_eq]; exact h
      have hp : (b != 10) = true := by rw [bne_iff_ne]; exact h
      rw [if_neg hn, if_pos hp]
      rcases ih with ⟨h1, h2⟩ | h1
      · left
        have := Lib.indexByte_ge r 10
        have e : Lib.indexByte r 10 = -1 := by omega
        rw [e, h2]; simp
      · right
        rw [h1, if_neg (by rw [beq_iff_eq]; omega)]; push_cast; rfl
theorem idx2_index : ∀ (l : Lx.Bs), Lib.index l [42, 47] = match Lx.idx2 l with | some n => (n : Int) | none => -1
  | [] => rfl
  | b :: r => by
    rw [Lib.index, Lx.idx2, idx2_index r]
    have e : ([42, 47] : Lx.Bs).isPrefixOf (b :: r) = true ↔ (b = 42 ∧ r.head? = some 47) := by
      rw [List.isPrefixOf_iff_prefix, List.cons_prefix_cons]
      refine and_congr ⟨fun h => h.symm, fun h => h.symm⟩ ?_
      cases r with
      | nil => simp
      | cons c q =>
        rw [List.cons_prefix_cons, List.head?_cons, Option.some.injEq]
        exact ⟨fun h => h.1.symm, fun h => ⟨h.symm, List.nil_prefix⟩⟩
    by_cases h : b = 42 ∧ r.head? = some 47
    · rw [if_pos (e.2 h), if_pos h]; rfl
    · rw [if_neg (fun h2 => h (e.1 h2)), if_neg h]
      cases Lx.idx2 r with
      | none => rfl
      | some n =>
        have : ¬ (((n : Int) == -1) = true) := by rw [beq_iff_eq]; omega
        simp only [Option.map_some]
        rw [if_neg this]; push_cast; rfl

theorem idxbyte_any (s : ByteArray) (b : UInt8) (w : World) : Calls Tryz.prog 24 #[.string s, .int .u8 b.toNat] w fun e w' => e = .returned (.int .i64 (Lib.indexByte s.data.toList b)) ∧ w = w' :=
  (Tryz.strings_IndexByte s b.toNat w).mono fun e w' h => by
    have hb : ((b.toNat : Int)).toNat.toUInt8 = b := by simp
    rw [hb] at h; exact ⟨h.1, h.2.symm⟩
theorem hasprefix_any (s : ByteArray) (a b : UInt8) (w : World) : Calls Tryz.prog 34 #[.string s, .string ⟨#[a, b]⟩] w fun e w' => e = .returned (.bool (decide (s.data.toList.take 2 = [a, b]))) ∧ w = w' :=
  (Tryz.strings_HasPrefix s ⟨#[a, b]⟩ w).mono fun e w' h => ⟨by rw [← prefix_take]; exact h.1, h.2.symm⟩
theorem take2_size {s : ByteArray} {a b : UInt8} (h : s.data.toList.take 2 = [a, b]) : 2 ≤ s.size := by
  have := congrArg List.length h
  rw [List.length_take, len_data] at this
  simp at this; omega

def RemPost (w : World) (B : Nat) (s : ByteArray) (p : Nat × Nat) (e : Ending) (w' : World) : Prop :=
  match rem1 s.data.toList with
  | none => e = .returned (.tuple #[.bool false, .bool true]) ∧ w = w'
  | some none => e = .returned (.tuple #[.bool false, .bool false]) ∧ w = w'
  | some (some n) => e = .returned (.tuple #[.bool true, .bool true]) ∧ Blk w' B (scanC (rest s n) (Lx.adv p (s.data.toList.take n))) ∧ w.grownBy w' (some B)

set_option maxHeartbeats 2000000 in
theorem remark_any (A : Nat → Addr) (s : ByteArray) (p : Nat × Nat) (B : Nat) (w : World) (hv : Vars A w) (hb : Blk w B (scanC s p)) (hs : s.size ≤ 100000) (h1 : p.1 ≤ 100000) (h2 : p.2 ≤ 100000) :
    Calls Tryz.prog 25 #[.pointer (some ⟨B, 0, none⟩)] w (RemPost w B s p) := by
  have hc0 : w.cell? ⟨B, 0, none⟩ = some (.string s) := hb.cell (o := 0) rfl
  have hnl : ((10 : UInt8).toNat : Int) = 10 := rfl
  have HX := Lib.hid (fun (w0 : World) => idxbyte_any s 10 w0)
  rw [hnl] at HX
  have HP := Lib.hid (fun (n : Nat) (k : Int) (hk : k = n) (hn : n ≤ s.size) => pass_int s p n k B w hb hk hn hs h1 h2)
  obtain ⟨m0, hm0⟩ := hv.most
  have Hm0 := Lib.hid hm0
  clear hb hv hm0 hnl
  unfold RemPost
  by_cases h47 : s.data.toList.take 2 = [47, 47]
  · have e : rem1 s.data.toList = some (some (Lx.run (· != 10) s.data.toList)) := by unfold rem1; rw [if_pos h47]
    rw [e]
    have H1 : ∀ w0, Calls Tryz.prog 34 #[.string s, .string ⟨#[47, 47]⟩] w0 fun e w' => e = .returned (.bool true) ∧ w0 = w' := fun w0 => by
      have := hasprefix_any s 47 47 w0; rw [decide_eq_true h47] at this; exact this
    have HA := Lib.hid H1
    have hle := Lx.run_le (· != 10) s.data.toList
    rw [len_data] at hle
    have hcase := byte_run s.data.toList
    rw [len_data] at hcase
    simp only
    obtain ⟨n, hn⟩ : ∃ n, n = Lx.run (· != 10) s.data.toList := ⟨_, rfl⟩
    obtain ⟨x, hx⟩ : ∃ x, x = Lib.indexByte s.data.toList 10 := ⟨_, rfl⟩
    rw [← hn] at hle hcase ⊢
    rw [← hx] at hcase HX
    clear H1 e h47 hn hx
    rcases hcase with ⟨hx0, hxn⟩ | hxn
    · have Hxn := Lib.hid hxn
      clear hxn
      go_enter Tryz.func25, Tryz.ntmps25
      go_wp2_with (first
        | (go_at_call 34; (with_reducible refine (HA.out _).mono ?_); rintro e w' ⟨rfl, rfl⟩)
        | (go_at_call 24; (with_reducible refine (HX.out _).mono ?_); rintro e w' ⟨rfl, rfl⟩)
        | (go_at_call 12; (with_reducible refine (HP.out n _ (by rw [Hxn.out]) hle).mono ?_); rintro e w' ⟨rfl, hB, hg⟩))
      go_ret2
      exact ⟨rfl, hB, hg⟩
    · have Hxn := Lib.hid hxn
      have hx0 : 0 ≤ x := by omega
      clear hxn
      go_enter Tryz.func25, Tryz.ntmps25
      go_wp2_with (first
        | (go_at_call 34; (with_reducible refine (HA.out _).mono ?_); rintro e w' ⟨rfl, rfl⟩)
        | (go_at_call 24; (with_reducible refine (HX.out _).mono ?_); rintro e w' ⟨rfl, rfl⟩)
        | (go_at_call 12; (with_reducible refine (HP.out n _ (by rw [Hxn.out]) hle).mono ?_); rintro e w' ⟨rfl, hB, hg⟩))
      go_ret2
      exact ⟨rfl, hB, hg⟩
  · have H1 : ∀ w0, Calls Tryz.prog 34 #[.string s, .string ⟨#[47, 47]⟩] w0 fun e w' => e = .returned (.bool false) ∧ w0 = w' := fun w0 => by
      have := hasprefix_any s 47 47 w0; rw [decide_eq_false h47] at this; exact this
    have HA := Lib.hid H1
    by_cases h42 : s.data.toList.take 2 = [47, 42]
    · have e : rem1 s.data.toList = some ((Lx.idx2 (s.data.toList.drop 2)).map (· + 4)) := by unfold rem1; rw [if_neg h47, if_pos h42]
      rw [e]
      have H2 : ∀ w0, Calls Tryz.prog 34 #[.string s, .string ⟨#[47, 42]⟩] w0 fun e w' => e = .returned (.bool true) ∧ w0 = w' := fun w0 => by
        have := hasprefix_any s 47 42 w0; rw [decide_eq_true h42] at this; exact this
      have HB := Lib.hid H2
      have hs2 := take2_size h42
      have H3 : Calls Tryz.prog 35 #[.string (s.extract 2 s.size), .string ⟨#[42, 47]⟩] w fun e w' => e = .returned (.int .i64 (match Lx.idx2 (s.data.toList.drop 2) with | some n => (n : Int) | none => -1)) ∧ w = w' :=
        (Tryz.strings_Index (s.extract 2 s.size) ⟨#[42, 47]⟩ m0 w (by rw [extract_rest, rest_size]; omega) Hm0.out).mono fun e w' h => ⟨by
          rw [← idx2_index, ← rest_list, ← extract_rest]; exact h.1, h.2.symm⟩
      have HI := Lib.hid H3
      have hlt : ∀ n, Lx.idx2 (s.data.toList.drop 2) = some n → n + 4 ≤ s.size := fun n hn => by
        have := Lx.idx2_lt hn
        rw [List.length_drop, len_data] at this; omega
      clear H1 H2 H3 e h47 h42
      cases hi : Lx.idx2 (s.data.toList.drop 2) with
      | none =>
        rw [hi] at HI
        simp only [Option.map_none]
        clear hi hlt
        go_enter Tryz.func25, Tryz.ntmps25
        go_wp2_with fail
        refine (HA.out _).mono ?_
        rintro e w' ⟨rfl, rfl⟩
        go_wp2_with fail
        refine (HB.out _).mono ?_
        rintro e w' ⟨rfl, rfl⟩
        go_wp2_with fail
        refine HI.out.mono ?_
        rintro e w' ⟨rfl, rfl⟩
        go_wp2_with fail
        go_ret2
        exact ⟨rfl, rfl⟩
      | some n =>
        have hn := hlt n hi
        rw [hi] at HI
        simp only [Option.map_some]
        clear hi hlt
        go_enter Tryz.func25, Tryz.ntmps25
        go_wp2_with fail
        refine (HA.out _).mono ?_
        rintro e w' ⟨rfl, rfl⟩
        go_wp2_with fail
        refine (HB.out _).mono ?_
        rintro e w' ⟨rfl, rfl⟩
        go_wp2_with fail
        refine HI.out.mono ?_
        rintro e w' ⟨rfl, rfl⟩
        go_wp2_with fail
        refine (HP.out (n + 4) _ (by push_cast; omega) hn).mono ?_
        rintro e w' ⟨rfl, hB, hg⟩
        go_wp2_with fail
        go_ret2
        exact ⟨rfl, hB, hg⟩
    · have e : rem1 s.data.toList = none := by unfold rem1; rw [if_neg h47, if_neg h42]
      rw [e]
      have H2 : ∀ w0, Calls Tryz.prog 34 #[.string s, .string ⟨#[47, 42]⟩] w0 fun e w' => e = .returned (.bool false) ∧ w0 = w' := fun w0 => by
        have := hasprefix_any s 47 42 w0; rw [decide_eq_false h42] at this; exact this
      have HB := Lib.hid H2
      clear H1 H2 e h47 h42
      simp only
      go_enter Tryz.func25, Tryz.ntmps25
      go_wp2_with fail
      refine (HA.out _).mono ?_
      rintro e w' ⟨rfl, rfl⟩
      go_wp2_with fail
      refine (HB.out _).mono ?_
      rintro e w' ⟨rfl, rfl⟩
      go_wp2_with fail
      go_ret2
      exact ⟨rfl, rfl⟩

end Go.Proofs.YtiopcdbginnflaaGreatDoor
