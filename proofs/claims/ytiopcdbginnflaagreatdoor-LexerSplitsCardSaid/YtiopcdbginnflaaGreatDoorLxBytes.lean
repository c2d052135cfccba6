/- Package lexer, walked: what a byte is; how many bytes of a kind a text begins with. -/
import Derived.Test.YtiopcdbginnflaaGreatDoorLxPlain
import Derived.Shelf.Abstract
namespace Go.Proofs.YtiopcdbginnflaaGreatDoor
open Go.RowKit
set_option linter.unusedVariables false
set_option linter.unusedSimpArgs false

theorem letter_i (b : UInt8) : Lx.letter b = (((decide (97 ≤ (b.toNat : Int)) && decide ((b.toNat : Int) ≤ 122)) || (decide (65 ≤ (b.toNat : Int)) && decide ((b.toNat : Int) ≤ 90))) || ((b.toNat : Int) == 95)) := by
  unfold Lx.letter
  have h : ∀ (k : UInt8) , (decide (k ≤ b) = decide ((k.toNat : Int) ≤ (b.toNat : Int))) ∧ (decide (b ≤ k) = decide ((b.toNat : Int) ≤ (k.toNat : Int))) := fun k => by
    simp only [UInt8.le_iff_toNat_le]; constructor <;> exact decide_eq_decide.2 (by omega)
  have e : (b == 95) = ((b.toNat : Int) == 95) := by
    rw [Bool.eq_iff_iff, beq_iff_eq, beq_iff_eq, ← UInt8.toNat_inj]
    show b.toNat = 95 ↔ _
    omega
  rw [(h 97).1, (h 122).2, (h 65).1, (h 90).2, e]; rfl
theorem figure_i (b : UInt8) : Lx.figure b = (decide (48 ≤ (b.toNat : Int)) && decide ((b.toNat : Int) ≤ 57)) := by
  unfold Lx.figure
  have h : ∀ (k : UInt8) , (decide (k ≤ b) = decide ((k.toNat : Int) ≤ (b.toNat : Int))) ∧ (decide (b ≤ k) = decide ((b.toNat : Int) ≤ (k.toNat : Int))) := fun k => by
    simp only [UInt8.le_iff_toNat_le]; constructor <;> exact decide_eq_decide.2 (by omega)
  rw [(h 48).1, (h 57).2]; rfl

set_option maxHeartbeats 1000000 in
theorem letter_any (b : UInt8) (w : World) : Calls Tryz.prog 20 #[.int .u8 b.toNat] w fun e w' => e = .returned (.bool (Lx.letter b)) ∧ w = w' := by
  rw [letter_i]
  generalize (b.toNat : Int) = n
  by_cases h1 : 97 ≤ n <;> by_cases h2 : n ≤ 122 <;> by_cases h3 : 65 ≤ n <;> by_cases h4 : n ≤ 90 <;> by_cases h5 : n = 95
  all_goals first
    | (exfalso; omega)
    | (first
        | (subst h5
           go_enter Tryz.func20, Tryz.ntmps20
           go_wp2
           go_ret
           exact ⟨rfl, rfl⟩)
        | (have h6 : (n == 95) = false := beq_eq_false_iff_ne.2 h5
           clear h5
           go_enter Tryz.func20, Tryz.ntmps20
           go_wp2
           go_ret
           exact ⟨ret_bool (by simp [h1, h2, h3, h4, h6]), rfl⟩))

set_option maxHeartbeats 1000000 in
theorem figure_any (b : UInt8) (w : World) : Calls Tryz.prog 32 #[.int .u8 b.toNat] w fun e w' => e = .returned (.bool (Lx.figure b)) ∧ w = w' := by
  rw [figure_i]
  generalize (b.toNat : Int) = n
  by_cases h1 : 48 ≤ n <;> by_cases h2 : n ≤ 57
  all_goals
    go_enter Tryz.func32, Tryz.ntmps32
    go_wp2
    go_ret
    exact ⟨ret_bool (by simp [h1, h2]), rfl⟩

set_option maxHeartbeats 1000000 in
theorem inner_any (b : UInt8) (w : World) : Calls Tryz.prog 22 #[.int .u8 b.toNat] w fun e w' => e = .returned (.bool (Lx.inner b)) ∧ w = w' := by
  have HL := Lib.hid (fun w0 => letter_any b w0)
  have HF := Lib.hid (fun w0 => figure_any b w0)
  unfold Lx.inner
  generalize Lx.letter b = l at *
  generalize Lx.figure b = f at *
  cases l
  all_goals
    go_enter Tryz.func22, Tryz.ntmps22
    go_wp2_with (first
      | (go_at_call 20; refine (HL.out _).mono ?_; rintro e w' ⟨rfl, rfl⟩)
      | (go_at_call 32; refine (HF.out _).mono ?_; rintro e w' ⟨rfl, rfl⟩))
    go_ret
    exact ⟨ret_bool (by simp), rfl⟩

/-- what is handed to 'run' answers p of each byte -/
def GivesB (g : Nat) (lb : Array Value) (p : UInt8 → Bool) (w : World) : Prop :=
  ∀ (W : World) (b : UInt8), Below w.heap.size w W → Calls Tryz.prog g (#[.int .u8 b.toNat] ++ lb) W fun e W' => e = .returned (.bool (p b)) ∧ Below W.heap.size W W'
theorem run_next {p : UInt8 → Bool} : ∀ {l : Lx.Bs} {k : Nat} (h : k < l.length), k ≤ Lx.run p l → (p l[k] = true → k + 1 ≤ Lx.run p l) ∧ (p l[k] = false → Lx.run p l = k)
  | b :: r, 0, h, _ => by
    rw [Lx.run_cons]
    constructor
    · intro h; simp only [List.getElem_cons_zero] at h; rw [if_pos h]; omega
    · intro h; simp only [List.getElem_cons_zero] at h; rw [if_neg (by rw [h]; simp)]
  | b :: r, k + 1, h, hk => by
    rw [Lx.run_cons] at hk ⊢
    by_cases hb : p b = true
    · rw [if_pos hb] at hk ⊢
      have := run_next (p := p) (l := r) (k := k) (by simpa using h) (by omega)
      simp only [List.getElem_cons_succ]
      exact ⟨fun h => by have := this.1 h; omega, fun h => by have := this.2 h; omega⟩
    · rw [if_neg hb] at hk; omega

set_option maxHeartbeats 1000000 in
theorem run_any (s : ByteArray) (g : Nat) (lb : Array Value) (p : UInt8 → Bool) (w : World) (hs : s.size ≤ maxLen) (H : GivesB g lb p w) (eg : ∀ args w, (callFunc g args).run Tryz.prog w = .ok (.enter g args) w) :
    Calls Tryz.prog 21 #[.string s, .func (.func g) #[] lb] w fun e w' => e = .returned (.int .i64 (Lx.run p s.data.toList : Nat)) ∧ Below w.heap.size w w' := by
  unfold maxLen at hs
  have HG := Lib.hid H
  clear H
  obtain ⟨n, hn⟩ : ∃ n, n = Lx.run p s.data.toList := ⟨_, rfl⟩
  have Hl := Lib.hid (hn ▸ Lx.run_le p s.data.toList : n ≤ s.data.toList.length)
  have Hn := Lib.hid hn
  rw [← hn]
  clear hn
  go_enter Tryz.func21, Tryz.ntmps21
  go_wp2
  go_loopw [5] (fun i wr => ∃ k : Nat, k ≤ n ∧ i = .int .i64 k ∧ Below w.heap.size w wr) (fun i _ => s.size - (intOf i).toNat)
  case atStart => exact ⟨0, Nat.zero_le _, rfl, Below.refl _ _⟩
  case round =>
    obtain ⟨k, hk, rfl, hb⟩ := hrel
    by_cases hlt : k < s.size
    · have hkl : k < s.data.toList.length := by rw [len_data]; exact hlt
      have hnx := run_next hkl (Hn.out ▸ hk)
      have hbyte : s[k] = s.data.toList[k] := rfl
      rw [← hbyte, ← Hn.out] at hnx
      have hG := HG.out wr s[k] hb
      clear hbyte
      cases hp : p s[k]
      · have Hk := Lib.hid (hnx.2 hp)
        rw [hp] at hG
        clear hnx hp
        have HG' := Lib.hid hG
        clear hG
        go_wp2_with (go_at_fn g; refine HG'.out.mono ?_; rintro e w1 ⟨rfl, hb1⟩)
        go_ret
        exact ⟨ret_int (by rw [Hk.out]), hb.trans (hb1.mono hb.size)⟩
      · have Hk := hnx.1 hp
        rw [hp] at hG
        clear hnx hp
        have HG' := Lib.hid hG
        clear hG
        go_wp2_with (go_at_fn g; refine HG'.out.mono ?_; rintro e w1 ⟨rfl, hb1⟩)
        go_roundw
        case rel => exact ⟨k + 1, by omega, by go_num, hb.trans (hb1.mono hb.size)⟩
        case measure => simp [intOf]; omega
    · have hkn : k = n := by have := Hl.out; rw [len_data] at this; omega
      subst hkn
      go_wp2
      go_ret
      exact ⟨rfl, hb⟩

end Go.Proofs.YtiopcdbginnflaaGreatDoor
