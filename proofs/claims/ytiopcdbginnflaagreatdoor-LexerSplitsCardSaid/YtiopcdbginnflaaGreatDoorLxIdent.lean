/- Package lexer, walked: is a text a word? The law's own first look. -/
import Derived.Test.YtiopcdbginnflaaGreatDoorLxSplit
namespace Go.Proofs.YtiopcdbginnflaaGreatDoor
open Go.RowKit
set_option linter.unusedVariables false
set_option linter.unusedSimpArgs false

set_option maxHeartbeats 2000000 in
theorem ident_any (s : ByteArray) (w : World) (hs : s.size ≤ maxLen) :
    Calls Tryz.prog 8 #[.string s] w fun e w' => e = .returned (.bool (Lx.ident s.data.toList)) ∧ Below w.heap.size w w' := by
  have HR := Lib.hid (fun w0 => run_any s _ #[] Lx.inner w0 hs (inner_gives w0) inner_enters)
  unfold maxLen at hs
  by_cases h0 : s.size = 0
  · have hnil : s.data.toList = [] := List.eq_nil_of_length_eq_zero (by rw [len_data]; exact h0)
    have hemp : s.toList.isEmpty = true := isEmpty_yes h0
    have hemp2 : (!s.toList.isEmpty) = false := by rw [hemp]; rfl
    rw [hnil]
    clear hnil HR h0
    go_enter Tryz.func8, Tryz.ntmps8
    go_wp2
    go_ret
    exact ⟨rfl, Below.refl _ _⟩
  · have hemp : s.toList.isEmpty = false := isEmpty_no h0
    have hemp2 : (!s.toList.isEmpty) = true := by rw [hemp]; rfl
    have hp : 0 < s.size := by omega
    have hh : s.data.toList = s[0] :: s.data.toList.drop 1 := by
      have h1 : 0 < s.data.toList.length := by rw [len_data]; exact hp
      have h2 := List.drop_eq_getElem_cons h1
      rw [List.drop_zero] at h2
      exact h2
    have hid : Lx.ident s.data.toList = (decide (s.size ≤ 40) && Lx.letter s[0] && decide (Lx.run Lx.inner s.data.toList = s.size)) := by
      have h2 : Lx.ident (s[0] :: s.data.toList.drop 1) = (decide ((s[0] :: s.data.toList.drop 1).length ≤ 40) && Lx.letter s[0] && decide (Lx.run Lx.inner (s[0] :: s.data.toList.drop 1) = (s[0] :: s.data.toList.drop 1).length)) := rfl
      rw [← hh, len_data] at h2
      exact h2
    have hle := Lx.run_le Lx.inner s.data.toList
    rw [len_data] at hle
    rw [hid]
    have HL := Lib.hid (fun w0 => letter_any s[0] w0)
    generalize Lx.run Lx.inner s.data.toList = n at *
    generalize Lx.letter s[0] = lt at *
    clear hh hid
    by_cases h40 : s.size ≤ 40
    · have h40z : (s.size : Int) ≤ 40 := by omega
      cases lt
      · go_enter Tryz.func8, Tryz.ntmps8
        go_wp2_with (go_at_call 20; (with_reducible refine (HL.out _).mono ?_); rintro e w1 ⟨rfl, rfl⟩)
        go_ret
        exact ⟨ret_bool (by simp), Below.refl _ _⟩
      · go_enter Tryz.func8, Tryz.ntmps8
        go_wp2_with (first
          | (go_at_call 20; (with_reducible refine (HL.out _).mono ?_); rintro e w1 ⟨rfl, rfl⟩)
          | (go_at_call 21; (with_reducible refine (HR.out _).mono ?_); rintro e w2 ⟨rfl, hb⟩))
        go_ret
        refine ⟨ret_bool ?_, hb⟩
        rw [Bool.eq_iff_iff]; simp; omega
    · have h40z : decide ((s.size : Int) ≤ 40) = false := decide_eq_false (by omega)
      have h40y : decide (s.size ≤ 40) = false := decide_eq_false h40
      clear h40
      go_enter Tryz.func8, Tryz.ntmps8
      go_wp2
      go_ret
      exact ⟨ret_bool (by rw [h40y]; rfl), Below.refl _ _⟩

/-- the chapter's example -/
def exL : Lx.Bs := [97, 32, 61, 32, 48, 120, 49, 48, 59, 32, 47, 47, 32, 120]
theorem ex_split : ∃ a b c d : Lx.Tok, Lx.splitN exL (1, 1) = .ok [a, b, c, d] ∧ c.num = 16 ∧ d.kind = 4 := by
  have g0 : Lx.gapN exL = (0, true) := Lx.gapN_none (by decide)
  have g1 : Lx.gapN [32, 61, 32, 48, 120, 49, 48, 59, 32, 47, 47, 32, 120] = (1, true) := by
    rw [Lx.gapN_some (n := 1) (by decide)]
    rw [show ([32, 61, 32, 48, 120, 49, 48, 59, 32, 47, 47, 32, 120] : Lx.Bs).drop 1 = [61, 32, 48, 120, 49, 48, 59, 32, 47, 47, 32, 120] from rfl, Lx.gapN_none (by decide)]
  have g2 : Lx.gapN [32, 48, 120, 49, 48, 59, 32, 47, 47, 32, 120] = (1, true) := by
    rw [Lx.gapN_some (n := 1) (by decide)]
    rw [show ([32, 48, 120, 49, 48, 59, 32, 47, 47, 32, 120] : Lx.Bs).drop 1 = [48, 120, 49, 48, 59, 32, 47, 47, 32, 120] from rfl, Lx.gapN_none (by decide)]
  have g3 : Lx.gapN [59, 32, 47, 47, 32, 120] = (0, true) := Lx.gapN_none (by decide)
  have g4 : Lx.gapN [32, 47, 47, 32, 120] = (5, true) := by
    rw [Lx.gapN_some (n := 1) (by decide)]
    rw [show ([32, 47, 47, 32, 120] : Lx.Bs).drop 1 = [47, 47, 32, 120] from rfl, Lx.gapN_some (n := 4) (by decide)]
    rw [show ([47, 47, 32, 120] : Lx.Bs).drop 4 = [] from rfl, Lx.gapN_none (by decide)]
  rw [Lx.splitN_tok (k := 1) (t := [97]) (x := 0) (m := 1) (by rw [g0]) (by rw [g0]; rfl), g0]
  simp only [exL, List.drop_succ_cons, List.drop_zero]
  rw [Lx.splitN_tok (k := 4) (t := [61]) (x := 0) (m := 1) (by rw [g1]) (by rw [g1]; rfl), g1]
  simp only [List.drop_succ_cons, List.drop_zero]
  rw [Lx.splitN_tok (k := 2) (t := [48, 120, 49, 48]) (x := 16) (m := 4) (by rw [g2]) (by rw [g2]; rfl), g2]
  simp only [List.drop_succ_cons, List.drop_zero]
  rw [Lx.splitN_tok (k := 4) (t := [59]) (x := 0) (m := 1) (by rw [g3]) (by rw [g3]; rfl), g3]
  simp only [List.drop_succ_cons, List.drop_zero]
  rw [Lx.splitN_end (by rw [g4]) (by rw [g4]; rfl)]
  exact ⟨_, _, _, _, rfl, rfl, rfl⟩

theorem sizeTok (w : World) : (Go.sizeOf (Tryz.prog.elem 23)).run Tryz.prog w = .ok 5 w := by kernel_rfl
set_option maxHeartbeats 2000000 in
set_option maxRecDepth 100000 in
theorem alive07 (A : Nat → Addr) (w : World) (hv : Vars A w) : Calls Tryz.prog 4 #[] w fun e w' => e = .returned (.bool true) ∧ Below w.heap.size w w' := by
  obtain ⟨a, b, c, d, hs, hc, hd⟩ := ex_split
  have HS := Lib.hid (split_any A ⟨#[97, 32, 61, 32, 48, 120, 49, 48, 59, 32, 47, 47, 32, 120]⟩ w hv (by decide))
  rw [show (⟨#[97, 32, 61, 32, 48, 120, 49, 48, 59, 32, 47, 47, 32, 120]⟩ : ByteArray).data.toList = exL from rfl, hs] at HS
  have HI := Lib.hid (fun w0 => ident_any ⟨#[97, 95, 49]⟩ w0 (by decide))
  rw [show Lx.ident (⟨#[97, 95, 49]⟩ : ByteArray).data.toList = true by decide] at HI
  have Hc := Lib.hid hc; have Hd := Lib.hid hd
  clear hv hs hc hd
  go_enter Tryz.func4, Tryz.ntmps4
  go_wp2_with fail
  refine HS.out.mono ?_
  rintro e w1 ⟨v, rfl, hF, hb⟩
  obtain ⟨ad, cap, rfl, hlc, hcm, _⟩ := hF.len
  obtain ⟨b2, o2, hb2, hi2, hc2⟩ := FlatV.at hF tC_len (by decide) (i := 2) (by simp) Tryz.underlying23 sizeTok
  obtain ⟨b3, o3, hb3, hi3, hc3⟩ := FlatV.at hF tC_len (by decide) (i := 3) (by simp) Tryz.underlying23 sizeTok
  have c2 : w1.cell? ⟨b2, o2 + 2, none⟩ = some (.int .i64 16) := by
    rw [hc2 2 _ rfl]; simp only [List.getElem_cons_succ, List.getElem_cons_zero]; rw [Hc.out]; rfl
  have c3 : w1.cell? ⟨b3, o3, none⟩ = some (.int .i64 4) := by
    have := hc3 0 _ rfl
    rw [Nat.add_zero] at this
    rw [this]; simp only [List.getElem_cons_succ, List.getElem_cons_zero]; rw [Hd.out]; rfl
  rw [show [a, b, c, d].length = 4 from rfl] at hi2 hi3 hlc ⊢
  rw [show ((2 : Nat) : Int) = 2 from rfl] at hi2
  rw [show ((3 : Nat) : Int) = 3 from rfl] at hi3
  have Hb := Lib.hid hb
  clear hc2 hc3 hF hb hb2 hb3
  go_wp2_with (go_at_call 8; (with_reducible refine (HI.out _).mono ?_); rintro e w2 ⟨rfl, hb4⟩)
  go_ret
  exact ⟨rfl, Hb.out.trans (hb4.mono Hb.out.size)⟩

end Go.Proofs.YtiopcdbginnflaaGreatDoor
