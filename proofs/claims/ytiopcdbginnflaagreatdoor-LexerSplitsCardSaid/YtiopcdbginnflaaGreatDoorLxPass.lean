/- Package lexer, walked: the scanner goes on by bytes. -/
import Derived.Test.YtiopcdbginnflaaGreatDoorLxVars
import Derived.Test.YtiopcdbginnflaaGreatDoorBlk
namespace Go.Proofs.YtiopcdbginnflaaGreatDoor
open Go.RowKit
set_option linter.unusedVariables false
set_option linter.unusedSimpArgs false

theorem Blk.setCell {w : World} {g o : Nat} {cs : List Value} (h : Blk w g cs) (v : Value) : Blk (w.setCell ⟨g, o, none⟩ v) g (cs.set o v) := by
  obtain ⟨t, h⟩ := h
  rw [setCell_eq_setRow w g o _ t _ v h]
  have e : cs.toArray.setIfInBounds o v = (cs.set o v).toArray := by simp
  rw [e]
  exact ⟨t, setRow_heap w g _ _ t _ h⟩
/-- the scanner's cells -/
def scanC (s : ByteArray) (p : Nat × Nat) : List Value := [.string s, .int .i64 (p.1 : Nat), .int .i64 (p.2 : Nat)]
/-- a text's rest -/
def rest (s : ByteArray) (n : Nat) : ByteArray := ⟨(s.data.toList.drop n).toArray⟩
theorem rest_list (s : ByteArray) (n : Nat) : (rest s n).data.toList = s.data.toList.drop n := rfl
theorem rest_size (s : ByteArray) (n : Nat) : (rest s n).size = s.size - n := by
  show (rest s n).data.size = _
  rw [← Array.length_toList, rest_list, List.length_drop, len_data]
theorem extract_rest (s : ByteArray) (n : Nat) : s.extract n s.size = rest s n := by
  apply ByteArray.ext
  apply Array.ext'
  rw [rest_list]
  simp only [ByteArray.data_extract, Array.toList_extract, List.extract_eq_take_drop]
  rw [List.take_of_length_le (by simp)]

def PassPost (w : World) (B : Nat) (s : ByteArray) (p : Nat × Nat) (e : Ending) (w' : World) : Prop :=
  e = .returned (.tuple #[]) ∧ Blk w' B (scanC s p) ∧ w.grownBy w' (some B)

set_option maxHeartbeats 2000000 in
theorem pass_any (s : ByteArray) (p : Nat × Nat) (n B : Nat) (w : World) (hb : Blk w B (scanC s p)) (hn : n ≤ s.size) (hs : s.size ≤ 100000) (h1 : p.1 ≤ 100000) (h2 : p.2 ≤ 100000) :
    Calls Tryz.prog 12 #[.pointer (some ⟨B, 0, none⟩), .int .i64 n] w (PassPost w B (rest s n) (Lx.adv p (s.data.toList.take n))) := by
  obtain ⟨l, hl⟩ : ∃ l, l = s.data.toList := ⟨_, rfl⟩
  have Hl := Lib.hid hl
  have Hll := Lib.hid (show l.length = s.size by rw [hl, len_data])
  rw [← hl]
  clear hl
  have Hb := Lib.hid hb
  clear hb
  obtain ⟨p1, p2⟩ := p
  simp only at h1 h2
  go_enter Tryz.func12, Tryz.ntmps12
  go_wp2
  go_loopw [4, 6] (fun _ i wr => ∃ k : Nat, k ≤ n ∧ i = .int .i64 k ∧ Blk wr B (scanC s (Lx.adv (p1, p2) (l.take k))) ∧ w.grownBy wr (some B)) (fun _ i _ => n - (intOf i).toNat)
  case atStart => exact ⟨0, Nat.zero_le _, rfl, by simpa [Lx.adv] using Hb.out, World.grownBy.refl _ _⟩
  case round =>
    obtain ⟨k, hk, rfl, hB, hg⟩ := hrel
    obtain ⟨q, hq⟩ : ∃ q, q = Lx.adv (p1, p2) (l.take k) := ⟨_, rfl⟩
    have hadv := Lx.adv_le (p1, p2) (l.take k)
    rw [← hq] at hB hadv
    have Hq := Lib.hid hq
    clear hq
    obtain ⟨q1, q2⟩ := q
    simp only [List.length_take] at hadv
    obtain ⟨hq1, hq2⟩ := hadv
    have hc0 : wr.cell? ⟨B, 0, none⟩ = some (.string s) := hB.cell (o := 0) rfl
    have hc1 : wr.cell? ⟨B, 1, none⟩ = some (.int .i64 q1) := hB.cell (o := 1) rfl
    have hc2 : wr.cell? ⟨B, 2, none⟩ = some (.int .i64 q2) := hB.cell (o := 2) rfl
    have hf0 := hB.frozen 0
    have hf1 := hB.frozen 1
    have hf2 := hB.frozen 2
    have HB := Lib.hid hB
    have Hg := Lib.hid hg
    clear hB hg
    by_cases hlt : k < n
    · have hks : k < s.size := by omega
      have hkl : k < l.length := by rw [Hll.out]; exact hks
      have hnext := Lx.adv_take_succ (p1, p2) l hkl
      rw [← Hq.out] at hnext
      have hbyte : s[k] = l[k] := by have := Hl.out; subst this; rfl
      rw [← hbyte] at hnext
      by_cases h10 : s[k] = 10
      · rw [if_pos h10] at hnext
        have Hnext := Lib.hid hnext
        have h10' : ((s[k].toNat : Int) == 10) = true := by rw [h10]; rfl
        clear hnext h10 hbyte
        go_wp2
        go_roundw
        case rel => 
          refine ⟨k + 1, by omega, by go_num, ?_, ?_⟩
          · rw [Hnext.out]
            exact ((HB.out.setCell _).setCell _).setCell _
          · exact ((Hg.out.trans (grown_setCell _ _ _)).trans (grown_setCell _ _ _)).trans (grown_setCell _ _ _)
        case measure => simp [intOf]; omega
      · rw [if_neg h10] at hnext
        have Hnext := Lib.hid hnext
        have h10' : ((s[k].toNat : Int) == 10) = false := by
          rw [beq_eq_false_iff_ne]; intro e; exact h10 (UInt8.toNat_inj.1 (by show s[k].toNat = 10; omega))
        clear hnext h10 hbyte
        go_wp2
        go_roundw
        case rel =>
          refine ⟨k + 1, by omega, by go_num, ?_, ?_⟩
          · rw [Hnext.out]
            exact (HB.out.setCell _)
          · exact (Hg.out.trans (grown_setCell _ _ _))
        case measure => simp [intOf]; omega
    · have hkn : k = n := by omega
      subst hkn
      go_wp2
      go_end0
      refine ⟨rfl, ?_, Hg.out.trans (grown_setCell _ _ _)⟩
      have h := HB.out.setCell (o := 0) (.string (s.extract k s.size))
      rw [extract_rest] at h ⊢
      rw [← Hq.out]
      exact h

theorem rest_rest (s : ByteArray) (a b : Nat) : rest (rest s a) b = rest s (a + b) := by
  apply ByteArray.ext
  apply Array.ext'
  rw [rest_list, rest_list, rest_list, List.drop_drop]
theorem rest_zero (s : ByteArray) : rest s 0 = s := rfl
theorem pass_int (s : ByteArray) (p : Nat × Nat) (n : Nat) (k : Int) (B : Nat) (w : World) (hb : Blk w B (scanC s p)) (hk : k = n) (hn : n ≤ s.size) (hs : s.size ≤ 100000) (h1 : p.1 ≤ 100000) (h2 : p.2 ≤ 100000) :
    Calls Tryz.prog 12 #[.pointer (some ⟨B, 0, none⟩), .int .i64 k] w (PassPost w B (rest s n) (Lx.adv p (s.data.toList.take n))) := by
  subst hk; exact pass_any s p n B w hb hn hs h1 h2

end Go.Proofs.YtiopcdbginnflaaGreatDoor
