/- Plain facts: a text as tokens. -/
import Derived.Test.YtpcfdngnmigkfaaGreatDoorGroupA
set_option linter.unusedVariables false
set_option linter.unusedSimpArgs false
namespace Go.Proofs.YtpcfdngnmigkfaaGreatDoor.Lx
abbrev Bs := List UInt8
def letter (b : UInt8) : Bool := (97 ≤ b && b ≤ 122) || (65 ≤ b && b ≤ 90) || b == 95
def figure (b : UInt8) : Bool := 48 ≤ b && b ≤ 57
def inner (b : UInt8) : Bool := letter b || figure b
def isGap (b : UInt8) : Bool := b == 32 || b == 9 || b == 13 || b == 10
def isSign (b : UInt8) : Bool := [123, 125, 91, 93, 60, 62, 40, 41, 59, 61, 44, 46, 45].contains b
def run (p : UInt8 → Bool) (l : Bs) : Nat := (l.takeWhile p).length
def idx2 : Bs → Option Nat
 | [] => none
 | b :: r => if b = 42 ∧ r.head? = some 47 then some 0 else (idx2 r).map (· + 1)
def idx1 (b : UInt8) : Bs → Option Nat
 | [] => none
 | c :: r => if c = b then some 0 else (idx1 b r).map (· + 1)
theorem run_le (p : UInt8 → Bool) (l : Bs) : run p l ≤ l.length := (List.takeWhile_sublist p).length_le
theorem run_cons (p : UInt8 → Bool) (b : UInt8) (r : Bs) : run p (b :: r) = if p b then run p r + 1 else 0 := by
 unfold run; rw [List.takeWhile_cons]; split <;> simp_all
theorem run_nil (p : UInt8 → Bool) : run p [] = 0 := rfl
theorem idx1_lt {b : UInt8} : ∀ {l : Bs} {n : Nat}, idx1 b l = some n → n < l.length
 | c :: r, n, h => by
  rw [idx1] at h
  split at h
  ·cases h; simp
  ·obtain ⟨m, hm, rfl⟩ := Option.map_eq_some_iff.1 h
   have := idx1_lt hm
   simp; omega
theorem idx2_lt : ∀ {l : Bs} {n : Nat}, idx2 l = some n → n + 1 < l.length
 | c :: r, n, h => by
  rw [idx2] at h
  split at h
  ·rename_i h2
   cases h
   cases r with
   | nil => simp at h2
   | cons d q => simp
  ·obtain ⟨m, hm, rfl⟩ := Option.map_eq_some_iff.1 h
   have := idx2_lt hm
   simp; omega
def gap1 (l : Bs) : Option (Option Nat) :=
 if 0 < run isGap l then some (some (run isGap l))
 else if l.take 2 = [47, 47] then some (some (run (· != 10) l))
 else if l.take 2 = [47, 42] then some ((idx2 (l.drop 2)).map (· + 4))
 else none
theorem gap1_pos {l : Bs} {n : Nat} (h : gap1 l = some (some n)) : 0 < n ∧ n ≤ l.length := by
 unfold gap1 at h
 split at h
 ·rename_i h1; cases h; exact ⟨h1, run_le _ _⟩
 ·split at h
  ·rename_i h2
   cases h
   refine ⟨?_, run_le _ _⟩
   match l, h2 with
   | a :: b :: r, h2 =>
    simp only [List.take_succ_cons, List.take_zero, List.cons.injEq, and_true] at h2
    rw [run_cons, h2.1]; simp
  ·split at h
   ·rename_i h3
    simp only [Option.some.injEq, Option.map_eq_some_iff] at h
    obtain ⟨m, hm, rfl⟩ := h
    have := idx2_lt hm
    rw [List.length_drop] at this
    omega
   ·cases h
def gapN (l : Bs) : Nat × Bool := match h : gap1 l with
 | none => (0, true)
 | some none => (0, false)
 | some (some n) => ((gapN (l.drop n)).1 + n, (gapN (l.drop n)).2)
termination_by l.length
decreasing_by all_goals (have := gap1_pos h; simp; omega)
theorem gapN_none {l : Bs} (h : gap1 l = none) : gapN l = (0, true) := by rw [gapN]; split <;> simp_all
theorem gapN_bad {l : Bs} (h : gap1 l = some none) : gapN l = (0, false) := by rw [gapN]; split <;> simp_all
theorem gapN_some {l : Bs} {n : Nat} (h : gap1 l = some (some n)) : gapN l = ((gapN (l.drop n)).1 + n, (gapN (l.drop n)).2) := by
 rw [gapN]
 split
 ·rename_i h2; rw [h] at h2; cases h2
 ·rename_i h2; rw [h] at h2; cases h2
 ·rename_i m h2; rw [h] at h2; cases h2; rfl
theorem gapN_le : ∀ (k : Nat) (l : Bs), l.length ≤ k → (gapN l).1 ≤ l.length
 | k, l, hk => by
  cases h : gap1 l with
  | none => rw [gapN_none h]; exact Nat.zero_le _
  | some o => cases o with
   | none => rw [gapN_bad h]; exact Nat.zero_le _
   | some n =>
    have hp := gap1_pos h
    rw [gapN_some h]
    cases k with
    | zero => omega
    | succ k =>
     have := gapN_le k (l.drop n) (by simp; omega)
     rw [List.length_drop] at this
     show (gapN (l.drop n)).1 + n ≤ _
     omega
theorem gapN_cons {b : UInt8} {r : Bs} (h : isGap b = true) : gapN (b :: r) = ((gapN r).1 + 1, (gapN r).2) := by
 have h1 : run isGap (b :: r) = run isGap r + 1 := by rw [run_cons, if_pos h]
 have h2 : gap1 (b :: r) = some (some (run isGap r + 1)) := by
  unfold gap1; rw [h1, if_pos (by omega)]
 rw [gapN_some h2, List.drop_succ_cons]
 by_cases h3 : 0 < run isGap r
 ·have h4 : gap1 r = some (some (run isGap r)) := by unfold gap1; rw [if_pos h3]
  rw [gapN_some h4]; simp only [Nat.add_assoc]
 ·have h5 : run isGap r = 0 := by omega
  rw [h5]; simp
def adv (p : Nat × Nat) (l : Bs) : Nat × Nat := l.foldl (fun p b => if b = 10 then (p.1 + 1, 1) else (p.1, p.2 + 1)) p
theorem adv_append (p : Nat × Nat) (a b : Bs) : adv p (a ++ b) = adv (adv p a) b := List.foldl_append
theorem adv_take_succ (p : Nat × Nat) (l : Bs) {k : Nat} (h : k < l.length) : adv p (l.take (k + 1)) = if l[k] = 10 then ((adv p (l.take k)).1 + 1, 1) else ((adv p (l.take k)).1, (adv p (l.take k)).2 + 1) := by
 rw [List.take_succ_eq_append_getElem h, adv_append]; rfl
theorem adv_le (p : Nat × Nat) : ∀ (l : Bs), (adv p l).1 ≤ p.1 + l.length ∧ (adv p l).2 ≤ p.2 + l.length + 1 := by
 intro l
 induction l generalizing p with
 | nil => simp [adv]
 | cons b r ih =>
  have e : adv p (b :: r) = adv (if b = 10 then (p.1 + 1, 1) else (p.1, p.2 + 1)) r := rfl
  rw [e]
  split
  ·have := ih (p.1 + 1, 1); simp at this ⊢; omega
  ·have := ih (p.1, p.2 + 1); simp at this ⊢; omega
def digit (b : UInt8) : Nat := if figure b then b.toNat - 48 else if 97 ≤ b ∧ b ≤ 102 then b.toNat - 87 else if 65 ≤ b ∧ b ≤ 70 then b.toNat - 55 else 16
def valueOf (base : Nat) (l : Bs) : Nat := l.foldl (fun n b => n * base + digit b) 0
def baseOf (l : Bs) : Nat × Bs := if l.take 2 = [48, 120] ∨ l.take 2 = [48, 88] then (16, l.drop 2) else if 1 < l.length ∧ l.head? = some 48 then (8, l.drop 1) else (10, l)
inductive Res (α : Type) where
 | bad (n : Nat) : Res α
 | ok (x : α) : Res α
def number (l : Bs) : Res Nat :=
 if (baseOf l).2 = [] ∨ run (fun b => decide (digit b < (baseOf l).1)) (baseOf l).2 < (baseOf l).2.length then .bad 9
 else if 2147483647 < valueOf (baseOf l).1 (baseOf l).2 then .bad 1
 else .ok (valueOf (baseOf l).1 (baseOf l).2)
structure Tok where
 kind : Nat
 text : Bs
 num : Nat
 line : Nat
 col : Nat
def token (l : Bs) : Res (Nat × Bs × Nat × Nat) := match l with
 | [] => .bad 9
 | b :: r =>
  if inner b then
   if figure b then match number (l.take (run inner l)) with
    | .bad n => .bad n
    | .ok x => .ok (2, l.take (run inner l), x, run inner l)
   else if 40 < run inner l then .bad 3
   else .ok (1, l.take (run inner l), 0, run inner l)
  else if b = 34 ∨ b = 39 then match idx1 b r with
   | none => .bad 9
   | some n => if (r.take n).any (fun c => c == 92 || c == 10) then .bad 9 else .ok (3, r.take n, 0, n + 2)
  else if isSign b then .ok (4, [b], 0, 1)
  else .bad 9
theorem token_pos {l : Bs} {k : Nat} {t : Bs} {x n : Nat} (h : token l = .ok (k, t, x, n)) : 0 < n ∧ n ≤ l.length := by
 unfold token at h
 cases l with
 | nil => cases h
 | cons b r =>
  simp only at h
  split at h
  ·rename_i h1
   have h2 : 0 < run inner (b :: r) := by rw [run_cons, if_pos h1]; omega
   have h3 := run_le inner (b :: r)
   split at h
   ·split at h
    ·cases h
    ·cases h; exact ⟨h2, h3⟩
   ·split at h
    ·cases h
    ·cases h; exact ⟨h2, h3⟩
  ·split at h
   ·split at h
    ·cases h
    ·rename_i m hm
     have := idx1_lt hm
     split at h
     ·cases h
     ·cases h; simp; omega
   ·split at h
    ·cases h; simp
    ·cases h
inductive Out where
 | bad (n : Nat) (p : Nat × Nat) : Out
 | ok (l : List Tok) : Out
def Out.cons (t : Tok) : Out → Out
 | .bad n p => .bad n p
 | .ok l => .ok (t :: l)
def splitN (l : Bs) (p : Nat × Nat) : Out :=
 if (gapN l).2 = false then .bad 9 (adv p (l.take (gapN l).1))
 else if l.drop (gapN l).1 = [] then .ok []
 else match h : token (l.drop (gapN l).1) with
  | .bad n => .bad n (adv p (l.take (gapN l).1))
  | .ok (k, t, x, n) => (splitN ((l.drop (gapN l).1).drop n) (adv p (l.take ((gapN l).1 + n)))).cons ⟨k, t, x, (adv p (l.take (gapN l).1)).1, (adv p (l.take (gapN l).1)).2⟩
termination_by l.length
decreasing_by (have := token_pos h; simp at this ⊢; omega)
theorem splitN_bad {l : Bs} {p : Nat × Nat} (h : (gapN l).2 = false) : splitN l p = .bad 9 (adv p (l.take (gapN l).1)) := by rw [splitN, if_pos h]
theorem splitN_end {l : Bs} {p : Nat × Nat} (h : (gapN l).2 = true) (h2 : l.drop (gapN l).1 = []) : splitN l p = .ok [] := by rw [splitN, if_neg (by rw [h]; simp), if_pos h2]
theorem splitN_tok {l : Bs} {p : Nat × Nat} {k x m : Nat} {t : Bs} (h : (gapN l).2 = true) (ht : token (l.drop (gapN l).1) = .ok (k, t, x, m)) :
  splitN l p = (splitN ((l.drop (gapN l).1).drop m) (adv p (l.take ((gapN l).1 + m)))).cons ⟨k, t, x, (adv p (l.take (gapN l).1)).1, (adv p (l.take (gapN l).1)).2⟩ := by
 rw [splitN, if_neg (by rw [h]; simp), if_neg (fun e => by have := token_pos ht; rw [e] at this; simp at this; omega)]
 split
 ·rename_i h3; rw [ht] at h3; cases h3
 ·rename_i h3; rw [ht] at h3; cases h3; rfl
theorem splitN_err {l : Bs} {p : Nat × Nat} {e : Nat} (h : (gapN l).2 = true) (hne : l.drop (gapN l).1 ≠ []) (ht : token (l.drop (gapN l).1) = .bad e) : splitN l p = .bad e (adv p (l.take (gapN l).1)) := by
 rw [splitN, if_neg (by rw [h]; simp), if_neg hne]
 split
 ·rename_i h3; rw [ht] at h3; cases h3; rfl
 ·rename_i h3; rw [ht] at h3; cases h3
def split (l : Bs) : Out := if 4000 < l.length then .bad 3 (0, 0) else splitN l (1, 1)
end Go.Proofs.YtpcfdngnmigkfaaGreatDoor.Lx
