/- strings.ContainsAny at the two bytes that no text may hold, whatever the text. -/
import Derived.Test.YtiofhfcohhfihaaGreatDoorLxParse
import Derived.Laws.RangeAny
import Derived.Lib.OthersKept
namespace Go.Proofs.YtiofhfcohhfihaaGreatDoor
open Go.RowKit
set_option linter.unusedVariables false
set_option linter.unusedSimpArgs false

theorem decode_skip (s : ByteArray) (pos : Nat) (h : pos < s.size) (ha : 128 ≤ (s[pos]'h).toNat) : pos + (Utf8.decode s pos).2 ≤ s.size ∧ ∀ j (hj : j < s.size), pos ≤ j → j < pos + (Utf8.decode s pos).2 → 128 ≤ (s[j]'hj).toNat := by
  have hg : ∀ k (hk : pos + k < s.size), s.get! (pos + k) = s[pos + k]'hk := fun k hk => by
    show s.get! _ = _
    simp [ByteArray.get!, getElem!_pos, hk]
    rfl
  have hn : ¬ (s[pos]'h).toNat < 128 := by omega
  have key : ∀ n : Nat, pos + n ≤ s.size → (∀ k, k < n → 0 < k → ∃ hk : pos + k < s.size, 128 ≤ (s[pos + k]'hk).toNat) → pos + n ≤ s.size ∧ ∀ j (hj : j < s.size), pos ≤ j → j < pos + n → 128 ≤ (s[j]'hj).toNat := fun n h1 h2 => ⟨h1, fun j hj h3 h4 => by
    obtain ⟨k, rfl⟩ : ∃ k, j = pos + k := ⟨j - pos, by omega⟩
    by_cases hk : k = 0
    · subst hk; exact ha
    · exact (h2 k (by omega) (by omega)).2⟩
  have c : ∀ k, (decide (pos + k < s.size) && (s.get! (pos + k)).toNat / 64 == 2) = true → ∃ hk : pos + k < s.size, 128 ≤ (s[pos + k]'hk).toNat := fun k hk => by
    rw [Bool.and_eq_true, decide_eq_true_iff, beq_iff_eq] at hk
    refine ⟨hk.1, ?_⟩
    have := hk.2
    rw [hg k hk.1] at this
    omega
  simp only [Utf8.decode, get_at s pos h, hn, if_false]
  have one : pos + 1 ≤ s.size ∧ ∀ j (hj : j < s.size), pos ≤ j → j < pos + 1 → 128 ≤ (s[j]'hj).toNat := key 1 (by omega) (fun k hk h0 => by omega)
  split
  · rename_i h1
    rw [Bool.and_eq_true] at h1
    have h1' := c 1 h1.2
    split
    · exact key 2 (by have := h1'.1; omega) (fun k hk h0 => by
        obtain rfl : k = 1 := by omega
        exact h1')
    · exact one
  · split
    · rename_i h1
      rw [Bool.and_eq_true, Bool.and_eq_true] at h1
      have h1' := c 1 h1.1.2
      have h2' := c 2 h1.2
      split
      · exact key 3 (by have := h2'.1; omega) (fun k hk h0 => by
          rcases (show k = 1 ∨ k = 2 by omega) with rfl | rfl
          · exact h1'
          · exact h2')
      · exact one
    · split
      · rename_i h1
        rw [Bool.and_eq_true, Bool.and_eq_true, Bool.and_eq_true] at h1
        have h1' := c 1 h1.1.1.2
        have h2' := c 2 h1.1.2
        have h3' := c 3 h1.2
        split
        · exact key 4 (by have := h3'.1; omega) (fun k hk h0 => by
            rcases (show k = 1 ∨ k = 2 ∨ k = 3 by omega) with rfl | rfl | rfl
            · exact h1'
            · exact h2'
            · exact h3')
        · exact one
      · exact one

/-- what 'string(r)' is of a rune beyond ASCII, as far as it is needed -/
def HiText (e : ByteArray) : Prop := 2 ≤ e.size ∧ e.size ≤ 4 ∧ ∀ (h1 : 1 < e.size), e.size = 2 → 128 ≤ (e[1]'h1).toNat
theorem encode_hi (r : Int) (h : 128 ≤ r) : HiText (Utf8.encode r) := by
  have hc : 128 ≤ (if Utf8.valid r = true then r.toNat else Utf8.runeError) := by
    split
    · omega
    · unfold Utf8.runeError; omega
  unfold Utf8.encode
  simp only
  generalize (if Utf8.valid r = true then r.toNat else Utf8.runeError) = c at hc
  split
  · omega
  · split
    · refine ⟨by show 2 ≤ 2; omega, by show 2 ≤ 4; omega, fun h1 _ => ?_⟩
      show 128 ≤ (UInt8.ofNat (0x80 + c % 64)).toNat
      rw [UInt8.toNat_ofNat']; omega
    · split
      · exact ⟨by show 2 ≤ 3; omega, by show 3 ≤ 4; omega, fun h1 h2 => absurd (show (3 : Nat) = 2 from h2) (by omega)⟩
      · exact ⟨by show 2 ≤ 4; omega, by show 4 ≤ 4; omega, fun h1 h2 => absurd (show (4 : Nat) = 2 from h2) (by omega)⟩

def badL : ByteArray := ⟨#[92, 10]⟩
set_option maxHeartbeats 4000000 in
set_option maxRecDepth 100000 in
theorem idxrune_hi (r : Int) (h : 128 ≤ r) (hr : r ≤ 2147483647) (w : World) :
    Calls Tryz.prog 149 #[.string badL, .int .i32 r] w fun e w' => e = .returned (.int .i64 (-1)) ∧ Below w.heap.size w w' := by
  by_cases h1 : r = 65533
  · subst h1
    unfold badL
    have hr0 : ∀ ty, (Instr.next (.pointer (some ⟨w.heap.size, 0, none⟩)) true ty).run Tryz.prog (w.iter ⟨#[92, 10]⟩ 0) = .ok (.tuple #[.bool true, .int .i64 0, .int .i32 92]) (w.iter ⟨#[92, 10]⟩ 1) := fun ty => run_next_ascii (P := Tryz.prog) w ⟨#[92, 10]⟩ 0 ty (by decide) (by decide)
    have hr1 : ∀ ty, (Instr.next (.pointer (some ⟨w.heap.size, 0, none⟩)) true ty).run Tryz.prog (w.iter ⟨#[92, 10]⟩ 1) = .ok (.tuple #[.bool true, .int .i64 1, .int .i32 10]) (w.iter ⟨#[92, 10]⟩ 2) := fun ty => run_next_ascii (P := Tryz.prog) w ⟨#[92, 10]⟩ 1 ty (by decide) (by decide)
    have hr2 : ∀ ty, (Instr.next (.pointer (some ⟨w.heap.size, 0, none⟩)) true ty).run Tryz.prog (w.iter ⟨#[92, 10]⟩ 2) = .ok (.tuple #[.bool false]) (w.iter ⟨#[92, 10]⟩ 2) := fun ty => run_next_end (P := Tryz.prog) w ⟨#[92, 10]⟩ 2 ty (by decide)
    go_enter Tryz.func149, Tryz.ntmps149
    go_wp2
    refine wp_loop_rounds 3 ?_
    rw [rounds_succ]
    go_wp2
    rw [rounds_succ]
    go_wp2
    rw [rounds_succ]
    go_wp2
    go_ret
    exact ⟨rfl, (Below.refl _ _).alloc (Nat.le_refl _) _⟩
  · have h1' : (r == 65533) = false := beq_eq_false_iff_ne.2 h1
    have HV := Lib.hid (fun w0 => Tryz.utf8_ValidRune r w0)
    have ⟨he1, he3, he2⟩ := encode_hi r h
    obtain ⟨e, he⟩ : ∃ e, e = Utf8.encode r := ⟨_, rfl⟩
    rw [← he] at he1 he2 he3
    have hconv : ∀ W, (convert 21 9 (.int .i32 r)).run Tryz.prog W = .ok (.string e) W := fun W => by
      subst he
      simp [convert, run_underlying Tryz.underlying21, run_underlying Tryz.underlying9, Conv.intToString]
    cases hv : Lib.validRune r
    · rw [hv] at HV
      clear hv h1
      unfold badL
      go_enter Tryz.func149, Tryz.ntmps149
      go_wp2_with fail
      refine (HV.out _).mono ?_
      rintro e w' ⟨rfl, rfl⟩
      go_wp2_with fail
      go_ret
      exact ⟨rfl, Below.refl _ _⟩
    · rw [hv] at HV
      clear hv h1 he
      unfold badL
      by_cases h2 : e.size = 2
      · have hlt : 1 < e.size := by omega
        have hb : 128 ≤ (e[1]'hlt).toNat := he2 hlt h2
        have hne : ((10 : Int) != ((e[1]'hlt).toNat : Int)) = true := by rw [bne_iff_ne]; omega
        have hne2 : ((((⟨#[92, 10]⟩ : ByteArray)[1]'(by decide)).toNat : Int) != ((e[1]'hlt).toNat : Int)) = true := hne
        have HX := Lib.hid (fun w0 => idxbyte_any ⟨#[]⟩ (e[1]'hlt) w0)
        clear he2
        go_enter Tryz.func149, Tryz.ntmps149
        go_wp2_with fail
        refine (HV.out _).mono ?_
        rintro e w' ⟨rfl, rfl⟩
        go_wp2_with fail
        go_step3
        go_wp2
        refine wp_loop_rounds 1 ?_
        rw [rounds_succ]
        go_wp2
        go_step3
        go_wp2
        go_quiet (fail)
        go_wp2
        generalize hw2 : w'.drewN nq = w2
        have Hw2 := Lib.hid (hw2 ▸ Below.drewN (Below.refl w'.heap.size w') nq : Below w'.heap.size w' w2)
        clear hw2
        go_quiet ((go_at_call 67; exact Calls.quiet_of_same ((HX.out _).mono fun e w1 h => ⟨h.1, h.2.symm⟩)))
        go_wp2
        simp only [Exit.noGoto_ret]
        go_wp2
        (repeat rw [Exit.noGoto_ret])
        go_ret
        exact ⟨rfl, Below.drewN Hw2.out _⟩
      · have h3 : 2 ≤ (e.size : Int) - 1 := by omega
        have h4 : decide ((e.size : Int) - 1 < 2) = false := decide_eq_false (by omega)
        clear he2
        go_enter Tryz.func149, Tryz.ntmps149
        go_wp2_with fail
        refine (HV.out _).mono ?_
        rintro e w' ⟨rfl, rfl⟩
        go_wp2_with fail
        go_step3
        go_wp2
        refine wp_loop_rounds 1 ?_
        rw [rounds_succ]
        go_wp2
        (try rw [Exit.noGoto_ret])
        go_ret
        exact ⟨rfl, Below.refl _ _⟩

theorem bad_hi {b : UInt8} (h : 128 ≤ b.toNat) : ([92, 10] : Lx.Bs).contains b = false := by
  simp only [List.contains_cons, List.contains_nil, Bool.or_false, Bool.or_eq_false_iff, beq_eq_false_iff_ne]
  exact ⟨fun e => by subst e; exact absurd h (by decide), fun e => by subst e; exact absurd h (by decide)⟩

set_option maxHeartbeats 4000000 in
set_option maxRecDepth 100000 in
theorem idxany_short (s : ByteArray) (w : World) (h8 : s.size ≤ 8) :
    Calls Tryz.prog 131 #[.string s, .string badL] w fun e w' => e = .returned (.int .i64 (Lib.indexAny s.data.toList [92, 10])) ∧ Below w.heap.size w w' := by
  have h8z : decide ((8 : Int) < (s.size : Int)) = false := decide_eq_false (by omega)
  have HS := Lib.hid (fun w0 => Tryz.strings_shouldUseASCIISet s.size w0)
  rw [h8z] at HS
  unfold badL
  go_enter Tryz.func131, Tryz.ntmps131
  go_wp2_with fail
  refine (HS.out _).mono ?_
  rintro e w' ⟨rfl, rfl⟩
  go_wp2_with fail
  go_loopg [9, 10] s.size (fun g _ _ wx => ∃ i : Nat, i + g = s.size ∧ wx.heap[w'.heap.size]? = some (.stringIter s i) ∧ Below w'.heap.size w' wx ∧ Hid (Lib.NoAny s.data.toList [92, 10] i))
  case atStart => exact ⟨0, by omega, World.iter_heap _ _ _, (Below.refl _ _).alloc (Nat.le_refl _) _, Lib.hid (Lib.NoAny.zero _ _)⟩
  case round =>
    obtain ⟨i, hig, hk, hbel, HN⟩ := hrel
    by_cases hi : i < s.size
    · obtain ⟨x, hx⟩ : ∃ x : UInt8, s[i]'hi = x := ⟨_, rfl⟩
      have hxl : s.data.toList[i]? = some x := by rw [← hx]; exact Lib.data_getElem? s i hi
      by_cases hx128 : x.toNat < 128
      · have hnx := fun ty => Lib.run_next_ascii_at (P := Tryz.prog) wr w'.heap.size s i ty hk hi (by rw [hx]; exact hx128)
        rw [hx] at hnx
        have Hk2 := Lib.hid (Lib.iterAt_heap wr w'.heap.size s i (i + 1) hk)
        have Hb2 := Lib.hid (Lib.below_iterAt hbel (Nat.le_refl _) s (i + 1))
        have Hx : Hid (s.data.toList[i]? = some x) := Lib.hid hxl
        have hback : ((x.toNat : Int)).toNat.toUInt8 = x := by simp
        have HR : Hid (∀ w0, Calls Tryz.prog 149 #[.string ⟨#[92, 10]⟩, .int .i32 x.toNat] w0 fun e w' => e = .returned (.int .i64 (Lib.indexByte [92, 10] x)) ∧ w0 = w') := Lib.hid (fun w0 =>
          (Tryz.strings_IndexRune_ascii ⟨#[92, 10]⟩ x.toNat w0 (by omega) (by omega)).mono fun e w' h => ⟨by rw [hback] at h; exact h.1, h.2.symm⟩)
        have hcon := Lib.contains_iff_indexByte [92, 10] x
        clear hx hxl hback hk hbel
        cases hin : ([92, 10] : Lx.Bs).contains x
        · rw [hin] at hcon
          have hlt : Lib.indexByte [92, 10] x < 0 := by have := of_decide_eq_false hcon.symm; omega
          have Hin := Lib.hid hin
          clear hcon hin
          generalize Lib.indexByte [92, 10] x = y at *
          go_wp2_with fail
          refine (HR.out _).mono ?_
          rintro e w2 ⟨rfl, rfl⟩
          go_wp2_with fail
          go_roundg (s.size - (i + 1))
          case measure => omega
          case rel => exact ⟨i + 1, by omega, Hk2.out, Hb2.out, Lib.hid (HN.out.succ Hx.out Hin.out)⟩
        · rw [hin] at hcon
          have hge : 0 ≤ Lib.indexByte [92, 10] x := of_decide_eq_true hcon.symm
          have Hin := Lib.hid hin
          clear hcon hin
          generalize Lib.indexByte [92, 10] x = y at *
          go_wp2_with fail
          refine (HR.out _).mono ?_
          rintro e w2 ⟨rfl, rfl⟩
          go_wp2_with fail
          go_ret
          exact ⟨by rw [Lib.indexAny_hit HN.out Hx.out Hin.out]; rfl, Hb2.out⟩
      · have ha : 128 ≤ (s[i]'hi).toNat := by rw [hx]; omega
        have hnx := fun ty => Lib.run_next_any_at (P := Tryz.prog) wr w'.heap.size s i ty hk hi
        have hd := decode_high s i hi ha
        have hdl := decode_le s i
        have hsk := decode_skip s i hi ha
        obtain ⟨r, hr⟩ : ∃ r, r = (Utf8.decode s i).1 := ⟨_, rfl⟩
        obtain ⟨n, hn⟩ : ∃ n, n = (Utf8.decode s i).2 := ⟨_, rfl⟩
        rw [← hr] at hnx hd hdl
        rw [← hn] at hnx hd hsk
        have Hk2 := Lib.hid (Lib.iterAt_heap wr w'.heap.size s i (i + n) hk)
        have Hb2 := Lib.hid (Lib.below_iterAt hbel (Nat.le_refl _) s (i + n))
        have HN2 : Hid (Lib.NoAny s.data.toList [92, 10] (i + n)) := Lib.hid (fun j b hj hb => by
          by_cases hji : j < i
          · exact HN.out j b hji hb
          · have hjs : j < s.size := by omega
            rw [Lib.data_getElem? s j hjs] at hb
            cases hb
            exact bad_hi (hsk.2 j hjs (by omega) hj))
        have HR := Lib.hid (fun w0 => idxrune_hi r (by omega) (by omega) w0)
        unfold badL at HR
        have hle := hsk.1
        have h1n := hd.2
        have Hsz : Hid (w'.heap.size < (wr.iterAt w'.heap.size s (i + n)).heap.size) := Lib.hid (Array.getElem?_eq_some_iff.1 Hk2.out).1
        clear hx hxl hk hbel hsk hd hr hn ha hx128
        go_wp2_with fail
        refine (HR.out _).mono ?_
        rintro e w2 ⟨rfl, hb3⟩
        have Hk3 := Lib.hid ((hb3.block _ Hsz.out).trans Hk2.out)
        have Hb3 := Lib.hid (Hb2.out.trans (hb3.mono Hb2.out.size))
        clear hb3
        go_wp2_with fail
        go_roundg (s.size - (i + n))
        case measure => omega
        case rel => exact ⟨i + n, by omega, Hk3.out, Hb3.out, HN2⟩
    · have hnx := fun ty => Lib.run_next_end_at (P := Tryz.prog) wr w'.heap.size s i ty hk hi
      have Hb2 := Lib.hid hbel
      have hie : i = s.data.toList.length := by rw [len_data]; omega
      have Hie := Lib.hid hie
      clear hk hbel hie
      go_wp2
      go_ret
      exact ⟨by rw [Lib.indexAny_none (Hie.out ▸ HN.out)]; rfl, Hb2.out⟩

end Go.Proofs.YtiofhfcohhfihaaGreatDoor
