/- Plain facts: which faults the lexer tells. -/
import Derived.Test.YtpcfdngnmigkfaaGreatDoorLzSplit
set_option linter.unusedVariables false
set_option linter.unusedSimpArgs false
namespace Go.Proofs.YtpcfdngnmigkfaaGreatDoor
open Go.RowKit
theorem token_badn {l : Lx.Bs} {m : Nat} (h : Lx.token l = .bad m) : m = 9 ∨ m = 1 ∨ m = 3 := by
 unfold Lx.token at h
 cases l with
 | nil => cases h; exact .inl rfl
 | cons b r =>
  simp only at h
  split at h
  ·split at h
   ·split at h
    ·rename_i q hq
     cases h
     exact (number_bad hq).imp id .inl
    ·cases h
   ·split at h
    ·cases h; exact .inr (.inr rfl)
    ·cases h
  ·split at h
   ·split at h
    ·cases h; exact .inl rfl
    ·split at h
     ·cases h; exact .inl rfl
     ·cases h
   ·split at h
    ·cases h
    ·cases h; exact .inl rfl
theorem splitN_badn : ∀ (n : Nat) (l : Lx.Bs) (p q : Nat × Nat) (m : Nat), l.length ≤ n → Lx.splitN l p = .bad m q → m = 9 ∨ m = 1 ∨ m = 3
 | n, l, p, q, m, hn, h => by
  rw [Lx.splitN] at h
  split at h
  ·cases h; exact .inl rfl
  ·split at h
   ·cases h
   ·split at h
    ·rename_i e he
     cases h
     exact token_badn he
    ·rename_i k t x j hj
     have hp := Lx.token_pos hj
     rw [List.length_drop] at hp
     cases n with
     | zero => omega
     | succ n =>
      cases hs : Lx.splitN ((l.drop (Lx.gapN l).1).drop j) (Lx.adv p (l.take ((Lx.gapN l).1 + j))) with
      | ok us => rw [hs] at h; cases h
      | bad e r =>
       rw [hs] at h
       cases h
       exact splitN_badn n _ _ _ _ (by rw [List.length_drop, List.length_drop]; omega) hs
theorem split_badn {s : ByteArray} {n : Nat} {p : Nat × Nat} (h : Lx.split s.data.toList = .bad n p) : n ≠ 0 := by
 unfold Lx.split at h
 split at h
 ·cases h; decide
 ·rcases splitN_badn _ _ _ _ _ (Nat.le_refl _) h with rfl | rfl | rfl <;> decide
end Go.Proofs.YtpcfdngnmigkfaaGreatDoor
