/- Plain facts for the statements on runes: beginnings, ends and sums of texts. -/
import Derived.Test.YtdmmelbknmabeaaRunesPlain
namespace Go.Proofs.Ytdmmelbknmabeaa.Runes

theorem cnt_end (l : List UInt8) : IsEnd l l.length (cnt l) := ek_spec _ _

theorem cnt_of {l : List UInt8} {k : Nat} (h : ∀ j, j < k → us (l.drop (pos l j)) ≠ 0) (h' : us (l.drop (pos l k)) = 0) : cnt l = k :=
  (cnt_end l).unique ⟨fun j hj => (goes_all l j).2 (h j hj), fun hg => (goes_all l k).1 hg h'⟩

theorem cnt_lt {l : List UInt8} {j : Nat} (h : j < cnt l) : us (l.drop (pos l j)) ≠ 0 := (goes_all l j).1 ((cnt_end l).1 j h)
theorem cnt_stop (l : List UInt8) : us (l.drop (pos l (cnt l))) = 0 := by
  have := (cnt_end l).2
  rw [goes_all] at this
  simpa using this

theorem right_iff (l : List UInt8) : right l = true ↔ pos l (cnt l) = l.length := by
  unfold right fault
  split
  · rename_i h; simp [h]
  · rename_i h; simp [h]

theorem us_append {l t : List UInt8} (h : us l ≠ 0) : us (l ++ t) = us l := by
  have e : (l ++ t).take l.length = l := by simp
  have := us_take_pos (l ++ t) l.length (by rw [e]; omega)
  rw [e] at this
  exact this

theorem pos_append {l : List UInt8} (t : List UInt8) {k : Nat} (h : ∀ j, j < k → us (l.drop (pos l j)) ≠ 0) : ∀ j, j ≤ k → pos (l ++ t) j = pos l j
  | 0, _ => rfl
  | j + 1, hj => by
    have ih := pos_append t h j (by omega)
    have hle := pos_le l j
    rw [pos_succ, pos_succ, ih, List.drop_append_of_le_length hle, us_append (h j (by omega))]

theorem pos_take {l : List UInt8} {k : Nat} (h : ∀ j, j < k → us (l.drop (pos l j)) ≠ 0) : ∀ j, j ≤ k → pos (l.take (pos l k)) j = pos l j
  | 0, _ => rfl
  | j + 1, hj => by
    have ih := pos_take h j (by omega)
    have h1 : pos l (j + 1) ≤ pos l k := pos_mono hj
    rw [pos_succ] at h1
    rw [pos_succ, pos_succ, ih, List.drop_take, us_cut _ _ (by have := h j (by omega); omega) (by omega)]

theorem cnt_take {l : List UInt8} {k : Nat} (hk : k ≤ cnt l) : cnt (l.take (pos l k)) = k ∧ right (l.take (pos l k)) = true := by
  have h : ∀ j, j < k → us (l.drop (pos l j)) ≠ 0 := fun j hj => cnt_lt (by omega)
  have hp := pos_take h
  have hle := pos_le l k
  have hlen : (l.take (pos l k)).length = pos l k := by simp; omega
  have hc : cnt (l.take (pos l k)) = k := by
    refine cnt_of (fun j hj => ?_) ?_
    · have h1 : pos l (j + 1) ≤ pos l k := pos_mono hj
      rw [pos_succ] at h1
      rw [hp j (by omega), List.drop_take, us_cut _ _ (by have := h j hj; omega) (by omega)]
      exact h j hj
    · rw [hp k (Nat.le_refl _), List.drop_of_length_le (by omega)]; rfl
  exact ⟨hc, by rw [right_iff, hc, hp k (Nat.le_refl _), hlen]⟩

theorem pos_drop {l : List UInt8} (k : Nat) : ∀ j, pos (l.drop (pos l k)) j + pos l k = pos l (k + j)
  | 0 => by simp [pos]
  | j + 1 => by
    have ih := pos_drop (l := l) k j
    rw [pos_succ, show k + (j + 1) = (k + j) + 1 from rfl, pos_succ, ← ih, List.drop_drop, Nat.add_comm (pos l k)]
    omega

theorem cnt_drop {l : List UInt8} {k : Nat} (hk : k ≤ cnt l) : cnt (l.drop (pos l k)) = cnt l - k := by
  refine cnt_of (fun j hj => ?_) ?_
  · rw [List.drop_drop, Nat.add_comm, pos_drop]
    exact cnt_lt (by omega)
  · rw [List.drop_drop, Nat.add_comm, pos_drop, show k + (cnt l - k) = cnt l by omega]
    exact cnt_stop l

theorem right_drop {l : List UInt8} {k : Nat} (hk : k ≤ cnt l) (h : right l = true) : right (l.drop (pos l k)) = true := by
  rw [right_iff] at h ⊢
  have h1 := pos_drop (l := l) k (cnt l - k)
  have := pos_le l k
  rw [cnt_drop hk, List.length_drop]
  rw [show k + (cnt l - k) = cnt l by omega] at h1
  omega

theorem append_facts {l t : List UInt8} (h : right l = true) : cnt (l ++ t) = cnt l + cnt t ∧ right (l ++ t) = right t := by
  rw [right_iff] at h
  have hp := pos_append t (k := cnt l) (fun j hj => cnt_lt hj)
  have hpl := (hp (cnt l) (Nat.le_refl _)).trans h
  have hd : (l ++ t).drop (pos (l ++ t) (cnt l)) = t := by rw [hpl]; simp
  have hle : cnt l ≤ cnt (l ++ t) := by
    rcases Nat.lt_or_ge (cnt (l ++ t)) (cnt l) with e | e
    · have h1 := cnt_stop (l ++ t)
      rw [hp _ (by omega), List.drop_append_of_le_length (pos_le _ _), us_append (cnt_lt e)] at h1
      exact absurd h1 (cnt_lt e)
    · exact e
  have h2 := cnt_drop hle
  rw [hd] at h2
  refine ⟨by omega, ?_⟩
  have e1 : cnt (l ++ t) = cnt l + cnt t := by omega
  have h3 := pos_drop (l := l ++ t) (cnt l) (cnt t)
  rw [hd, hpl, ← e1] at h3
  rw [Bool.eq_iff_iff, right_iff, right_iff, ← h3, List.length_append]
  omega

theorem fault_take {l : List UInt8} (h : right l = false) : fault l = pos l (cnt l) ∧ cnt (l.take (pos l (cnt l))) = cnt l := by
  refine ⟨?_, (cnt_take (Nat.le_refl _)).1⟩
  have : ¬ pos l (cnt l) = l.length := fun e => by rw [(right_iff l).2 e] at h; cases h
  unfold fault
  rw [if_neg this]

/-- the beginnings that end no further than most -/
theorem ek_le (l : List UInt8) (most : Int) : ek l most ≤ cnt l := by
  rcases Nat.lt_or_ge (cnt l) (ek l most) with e | e
  · exact absurd (cnt_stop l) ((ek_spec l most).1 _ e).1
  · exact e

theorem pos_ek {l : List UInt8} {most : Int} (h0 : 0 ≤ most) {j : Nat} (hj : j ≤ cnt l) : (pos l j : Int) ≤ most ↔ j ≤ ek l most := by
  have hle : ∀ i, i ≤ ek l most → (pos l i : Int) ≤ most := by
    intro i
    induction i with
    | zero => intro _; simpa [pos] using h0
    | succ i _ => intro hi; have := ((ek_spec l most).1 i (by omega)).2; rw [pos_succ]; omega
  constructor
  · intro h
    rcases Nat.lt_or_ge (ek l most) j with e | e
    · exfalso
      refine (ek_spec l most).2 ⟨cnt_lt (by omega), ?_⟩
      have h1 : pos l (ek l most + 1) ≤ pos l j := pos_mono e
      rw [pos_succ] at h1
      omega
    · exact e
  · exact hle j

theorem pos_ek_zero (l : List UInt8) : pos l (ek l 0) = 0 := by
  have h := (pos_ek (l := l) (most := 0) (by omega) (ek_le l 0)).2 (Nat.le_refl _)
  omega

/-- the beginning that the first i ends give -/
theorem want_step {l : List UInt8} {most : Int} (h0 : 0 ≤ most) {i : Nat} (hi : i + 1 ≤ cnt l) :
    (if (pos l (i + 1) : Int) ≤ most then pos l (i + 1) else pos l (min i (ek l most))) = pos l (min (i + 1) (ek l most)) := by
  have := pos_ek (l := l) h0 hi
  split
  · rename_i h; rw [show min (i + 1) (ek l most) = i + 1 by have := this.1 h; omega]
  · rename_i h; rw [show min (i + 1) (ek l most) = min i (ek l most) by have : ¬ (i + 1 ≤ ek l most) := fun e => h (this.2 e); omega]

theorem alive1 : right [195, 164] = true ∧ cnt [195, 164] = 1 := by
  have h : cnt [195, 164] = 1 := cnt_of (by decide) (by decide)
  exact ⟨by rw [right_iff, h]; decide, h⟩
theorem alive2 : right [195] = false := by
  have h : cnt [195] = 0 := cnt_of (by decide) (by decide)
  rw [Bool.eq_false_iff, ne_eq, right_iff, h]; decide
theorem alive3 : fault [97, 255] = 1 := by
  have h : cnt [97, 255] = 1 := cnt_of (by decide) (by decide)
  unfold fault; rw [h]; decide

end Go.Proofs.Ytdmmelbknmabeaa.Runes
