/- Plain facts: kinds of steps with their places. -/
import Derived.Test.YtlilamlolnkboaaMyTidyPlain
namespace Go.Proofs.Ytlilamlolnkboaa
set_option linter.unusedVariables false

/-- a step: kind and places, as align tells it -/
def stepOf (k x y : Nat) : Nat × Nat × Nat := (if k = 1 then 1 else if k = 2 then 3 else 4, x, y)
def nextX (k x : Nat) : Nat := if k = 3 then x else x + 1
def nextY (k y : Nat) : Nat := if k = 2 then y else y + 1
def placed : Nat → Nat → List Nat → List (Nat × Nat × Nat)
  | _, _, [] => []
  | x, y, k :: r => stepOf k x y :: placed (nextX k x) (nextY k y) r
def endX : Nat → List Nat → Nat
  | x, [] => x
  | x, k :: r => endX (nextX k x) r
def endY : Nat → List Nat → Nat
  | y, [] => y
  | y, k :: r => endY (nextY k y) r
theorem placed_snoc : ∀ (l : List Nat) (x y k : Nat), placed x y (l ++ [k]) = placed x y l ++ [stepOf k (endX x l) (endY y l)]
  | [], x, y, k => rfl
  | a :: r, x, y, k => by simp only [List.cons_append, placed, endX, endY, placed_snoc r]
theorem endX_snoc : ∀ (l : List Nat) (x k : Nat), endX x (l ++ [k]) = nextX k (endX x l)
  | [], x, k => rfl
  | a :: r, x, k => by simp only [List.cons_append, endX, endX_snoc r]
theorem endY_snoc : ∀ (l : List Nat) (y k : Nat), endY y (l ++ [k]) = nextY k (endY y l)
  | [], y, k => rfl
  | a :: r, y, k => by simp only [List.cons_append, endY, endY_snoc r]
theorem placed_len : ∀ (l : List Nat) (x y : Nat), (placed x y l).length = l.length
  | [], x, y => rfl
  | a :: r, x, y => by simp [placed, placed_len r]
theorem end_le : ∀ (l : List Nat) (x : Nat), endX x l ≤ x + l.length ∧ endY x l ≤ x + l.length
  | [], x => by simp [endX, endY]
  | a :: r, x => by
    have h1 := end_le r (nextX a x)
    have h2 := end_le r (nextY a x)
    have g1 : nextX a x ≤ x + 1 := by unfold nextX; split <;> omega
    have g2 : nextY a x ≤ x + 1 := by unfold nextY; split <;> omega
    simp only [endX, endY, List.length_cons]
    omega

def stepC (s : Nat × Nat × Nat) : List Value := [.int .i64 s.1, .int .i64 s.2.1, .int .i64 s.2.2]
theorem stepC_len (s : Nat × Nat × Nat) : (stepC s).length = 3 := rfl

end Go.Proofs.Ytlilamlolnkboaa
