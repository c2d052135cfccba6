/- Plain facts: the tokens of a text are few, short, and their numbers small. -/
import Derived.Test.YtpcfdngnmigkfaaGreatDoorGroupD
set_option linter.unusedVariables false
set_option linter.unusedSimpArgs false
namespace Go.Proofs.YtpcfdngnmigkfaaGreatDoor.Lx
theorem number_small {l : Bs} {x : Nat} (h : number l = .ok x) : x ≤ 2147483647 := by
 unfold number at h
 split at h
 ·cases h
 ·split at h
  ·cases h
  ·cases h; omega
theorem token_small {l : Bs} {k : Nat} {t : Bs} {x n : Nat} (h : token l = .ok (k, t, x, n)) : t.length ≤ l.length ∧ x ≤ 2147483647 := by
 unfold token at h
 cases l with
 | nil => cases h
 | cons b r =>
  simp only at h
  split at h
  ·split at h
   ·split at h
    ·cases h
    ·rename_i hn; cases h; exact ⟨by rw [List.length_take]; exact Nat.min_le_right _ _, number_small hn⟩
   ·split at h
    ·cases h
    ·cases h; exact ⟨by rw [List.length_take]; exact Nat.min_le_right _ _, by omega⟩
  ·split at h
   ·split at h
    ·cases h
    ·split at h
     ·cases h
     ·cases h
      refine ⟨?_, by omega⟩
      rw [List.length_take, List.length_cons]; omega
   ·split at h
    ·cases h; exact ⟨by simp, by omega⟩
    ·cases h
theorem splitN_small : ∀ (N : Nat) (l : Bs) (p : Nat × Nat), l.length ≤ N → ∀ ts, splitN l p = .ok ts → ts.length ≤ l.length ∧ ∀ t ∈ ts, t.text.length ≤ l.length ∧ t.num ≤ 2147483648
 | N, l, p, hN, ts, h => by
  cases hg : (gapN l).2 with
  | false => rw [splitN_bad hg] at h; cases h
  | true =>
   by_cases he : l.drop (gapN l).1 = []
   ·rw [splitN_end hg he] at h; cases h; exact ⟨by simp, fun t ht => by cases ht⟩
   ·cases ht : token (l.drop (gapN l).1) with
    | bad e => rw [splitN_err hg he ht] at h; cases h
    | ok q =>
     obtain ⟨k, t, x, n⟩ := q
     rw [splitN_tok hg ht] at h
     have hp := token_pos ht
     have hs := token_small ht
     rw [List.length_drop] at hp hs
     cases N with
     | zero => omega
     | succ N =>
      cases hr : splitN ((l.drop (gapN l).1).drop n) (adv p (l.take ((gapN l).1 + n))) with
      | bad e q => rw [hr] at h; cases h
      | ok us =>
       rw [hr] at h
       have hl : ((l.drop (gapN l).1).drop n).length = l.length - (gapN l).1 - n := by rw [List.length_drop, List.length_drop]
       have ih := splitN_small N _ _ (by rw [hl]; omega) us hr
       rw [hl] at ih
       cases h
       refine ⟨by rw [List.length_cons]; omega, fun u hu => ?_⟩
       rcases List.mem_cons.1 hu with rfl | hu
       ·exact ⟨by show t.length ≤ _; omega, by show x ≤ _; omega⟩
       ·have := ih.2 u hu
        exact ⟨by omega, this.2⟩
theorem split_small {l : Bs} {p : Nat × Nat} {ts : List Tok} (hl : l.length ≤ 5000) (h : splitN l p = .ok ts) : Small ts :=
 have h1 := splitN_small l.length l p (Nat.le_refl _) ts h
 ⟨by omega, fun t ht => by have := (h1.2 t ht).1; omega, fun t ht => (h1.2 t ht).2⟩
end Go.Proofs.YtpcfdngnmigkfaaGreatDoor.Lx
