/- Plain facts: the types of a file, in a row; which one a name means. -/
import Derived.Test.YtiofhfcohhfihaaGreatDoorGroupB
import Derived.Test.YtiofhfcohhfihaaGreatDoorNumPlain
namespace Go.Proofs.YtiofhfcohhfihaaGreatDoor.Sc
open Lx (Bs Tok)
open Sx
set_option linter.unusedVariables false

structure Ty where
  full : Bs
  enum : Bool
  index : Nat
  line : Nat
  col : Nat
deriving DecidableEq
/-- a type as it is met: it has no number yet -/
structure Raw where
  full : Bs
  enum : Bool
  line : Nat
  col : Nat
def within (s n : Bs) : Bs := if s = [] then n else s ++ [46] ++ n
def rawE (s : Bs) (e : Enm) : Raw := ⟨within s e.name, true, e.line, e.col⟩
def rawEs (s : Bs) (l : List Enm) : List Raw := l.map (rawE s)
mutual
def rawM (s : Bs) : Msg → List Raw
  | .mk nm fs os ms es rs ns li co => ⟨within s nm, false, li, co⟩ :: (rawEs (within s nm) es ++ rawMs (within s nm) ms)
def rawMs (s : Bs) : List Msg → List Raw
  | [] => []
  | m :: r => rawM s m ++ rawMs s r
end
def raws (f : Fil) : List Raw := rawEs f.pack f.enums ++ rawMs f.pack f.msgs
def count (l : List Ty) (e : Bool) : Nat := (l.filter fun t => t.enum == e).length
def tyOf (l : List Ty) (x : Raw) : Ty := ⟨x.full, x.enum, count l x.enum, x.line, x.col⟩
def fulls (l : List Ty) : List Bs := l.map (·.full)
abbrev Bad := Nat × Nat × Nat
/-- one type added: it must be new, and there must be room -/
def add1 (l : List Ty) (x : Raw) : List Ty × Option Bad :=
  if x.full ∈ fulls l then (l, some (11, x.line, x.col)) else if 40 ≤ l.length then (l, some (3, x.line, x.col)) else (l ++ [tyOf l x], none)
def addAll (l : List Ty) : List Raw → List Ty × Option Bad
  | [] => (l, none)
  | x :: r => if (add1 l x).2.isSome then add1 l x else addAll (add1 l x).1 r
theorem addAll_append (l : List Ty) (a b : List Raw) : addAll l (a ++ b) = if (addAll l a).2.isSome then addAll l a else addAll (addAll l a).1 b := by
  induction a generalizing l with
  | nil => rfl
  | cons x r ih =>
    simp only [List.cons_append, addAll]
    by_cases h : (add1 l x).2.isSome = true
    · simp only [if_pos h]
    · simp only [if_neg h]
      exact ih _
/-- all types, or what is wrong -/
def table (f : Fil) : List Ty × Option Bad := addAll [] (raws f)
def find (l : List Ty) (s : Bs) : Option Ty := l.find? fun t => t.full == s
/-- the place of the last point among the first k signs; 0: none -/
def lastP (s : Bs) : Nat → Nat
  | 0 => 0
  | k + 1 => if s[k]? = some 46 then k else lastP s k
def lastDot (s : Bs) : Nat := lastP s s.length
def outer (s : Bs) : Bs := s.take (lastDot s)
theorem lastP_le (s : Bs) : ∀ k, lastP s k ≤ k - 1
  | 0 => Nat.le_refl _
  | k + 1 => by
    have := lastP_le s k
    rw [lastP]
    split <;> omega
theorem lastDot_lt {s : Bs} (h : s ≠ []) : lastDot s < s.length := by
  have h1 : 0 < s.length := List.length_pos_iff.2 h
  have h2 := lastP_le s s.length
  unfold lastDot; omega
theorem outer_lt {s : Bs} (h : s ≠ []) : (outer s).length < s.length := by
  have := lastDot_lt h
  unfold outer; rw [List.length_take]; omega
/-- the type that a name means in a scope, the scope's parts taken off one by one -/
def look (l : List Ty) (n : Bs) : Nat → Bs → Option Ty
  | 0, _ => none
  | k + 1, s => match find l (within s n) with
    | some t => some t
    | none => if s = [] then none else look l n k (outer s)
def Look (l : List Ty) (s n : Bs) : Option Ty := if n.head? = some 46 then find l n.tail else look l n (s.length + 1) s
theorem look_more (l : List Ty) (n : Bs) : ∀ (k m : Nat) (s : Bs), s.length < k → s.length < m → look l n k s = look l n m s
  | 0, m, s, h, _ => by omega
  | k + 1, 0, s, _, h => by omega
  | k + 1, m + 1, s, h1, h2 => by
    rw [look, look]
    split
    · rfl
    · split
      · rfl
      · rename_i hs
        have := outer_lt hs
        exact look_more l n k m _ (by omega) (by omega)

/-- no two types have one name -/
def Uniq (l : List Ty) : Prop := (fulls l).Nodup
theorem add1_uniq {l : List Ty} (h : Uniq l) (x : Raw) : Uniq (add1 l x).1 := by
  unfold add1
  split
  · exact h
  · rename_i hn
    split
    · exact h
    · unfold Uniq fulls
      rw [List.map_append, List.nodup_append]
      refine ⟨h, by simp, fun a ha b hb => ?_⟩
      simp only [List.map_cons, List.map_nil, List.mem_singleton] at hb
      rintro rfl
      exact hn (by rw [hb] at ha; exact ha)
theorem addAll_uniq {l : List Ty} (h : Uniq l) : ∀ (r : List Raw), Uniq (addAll l r).1 := fun r => by
  induction r generalizing l with
  | nil => exact h
  | cons x r ih =>
    rw [addAll]
    split
    · exact add1_uniq h x
    · exact ih (add1_uniq h x)
theorem add1_few {l : List Ty} (h : l.length ≤ 40) (x : Raw) : (add1 l x).1.length ≤ 40 := by
  unfold add1
  split
  · exact h
  · split
    · exact h
    · simp only [List.length_append, List.length_cons, List.length_nil]; omega
theorem addAll_few {l : List Ty} (h : l.length ≤ 40) (r : List Raw) : (addAll l r).1.length ≤ 40 := by
  induction r generalizing l with
  | nil => exact h
  | cons x r ih =>
    rw [addAll]
    split
    · exact add1_few h x
    · exact ih (add1_few h x)
theorem find_at {l : List Ty} (h : Uniq l) {i : Nat} (hi : i < l.length) : find l l[i].full = some l[i] := by
  induction l generalizing i with
  | nil => simp at hi
  | cons t r ih =>
    unfold find
    rw [List.find?_cons]
    unfold Uniq fulls at h
    rw [List.map_cons, List.nodup_cons] at h
    cases i with
    | zero => simp
    | succ i =>
      have hir : i < r.length := by simpa using hi
      have : (t.full == ((t :: r)[i + 1]'hi).full) = false := by
        rw [beq_eq_false_iff_ne]
        intro e
        apply h.1
        rw [e]
        exact List.mem_map.2 ⟨_, List.getElem_mem hir, rfl⟩
      rw [this]
      exact ih h.2 hir
theorem find_none {l : List Ty} {s : Bs} (h : ¬ s ∈ fulls l) : find l s = none := by
  unfold find
  rw [List.find?_eq_none]
  intro t ht e
  exact h (List.mem_map.2 ⟨t, ht, by simpa using e⟩)
theorem find_some {l : List Ty} {s : Bs} {t : Ty} (h : find l s = some t) : t ∈ l ∧ t.full = s := by
  unfold find at h
  exact ⟨List.mem_of_find?_eq_some h, by have := List.find?_some h; simpa using this⟩

end Go.Proofs.YtiofhfcohhfihaaGreatDoor.Sc
