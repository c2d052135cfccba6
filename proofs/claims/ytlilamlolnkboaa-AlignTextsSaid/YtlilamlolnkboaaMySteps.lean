/- Plain facts: the steps from a row to another one. -/
import Derived.Test.YtlilamlolnkboaaMyPlain
namespace Go.Proofs.Ytlilamlolnkboaa.My

def steps : List Int → List Int → List Nat
  | [], b => List.replicate b.length 3
  | _ :: a, [] => 2 :: steps a []
  | x :: a, y :: b => if x = y then 1 :: steps a b else if dist a (y :: b) ≤ dist (x :: a) b then 2 :: steps a (y :: b) else 3 :: steps (x :: a) b
termination_by a b => a.length + b.length

def S (a b : List Int) (x y : Nat) : List Nat := steps (a.drop x) (b.drop y)
theorem S_start (a b : List Int) : S a b 0 0 = steps a b := by simp [S]
theorem S_done (a b : List Int) : S a b a.length b.length = [] := by simp [S, steps]
theorem S_keep {a b : List Int} {x y : Nat} (hx : x < a.length) (hy : y < b.length) (h : a[x] = b[y]) : S a b x y = 1 :: S a b (x + 1) (y + 1) := by
  unfold S; rw [List.drop_eq_getElem_cons hx, List.drop_eq_getElem_cons hy, steps, if_pos h]
theorem S_drop_end {a b : List Int} {x : Nat} (hx : x < a.length) : S a b x b.length = 2 :: S a b (x + 1) b.length := by
  unfold S; rw [List.drop_length, List.drop_eq_getElem_cons hx, steps]
theorem S_put_end {a b : List Int} {y : Nat} (hy : y < b.length) : S a b a.length y = 3 :: S a b a.length (y + 1) := by
  unfold S; rw [List.drop_length, List.drop_eq_getElem_cons hy]
  simp only [steps, List.length_cons, List.length_drop, List.replicate_succ]
theorem S_drop {a b : List Int} {x y : Nat} (hx : x < a.length) (hy : y < b.length) (h : a[x] ≠ b[y]) (hd : D a b (x + 1) y ≤ D a b x (y + 1)) : S a b x y = 2 :: S a b (x + 1) y := by
  unfold S D at *
  rw [List.drop_eq_getElem_cons hy, List.drop_eq_getElem_cons hx] at hd
  rw [List.drop_eq_getElem_cons hx, List.drop_eq_getElem_cons hy, steps, if_neg h, if_pos hd]
theorem S_put {a b : List Int} {x y : Nat} (hx : x < a.length) (hy : y < b.length) (h : a[x] ≠ b[y]) (hd : ¬ D a b (x + 1) y ≤ D a b x (y + 1)) : S a b x y = 3 :: S a b x (y + 1) := by
  unfold S D at *
  rw [List.drop_eq_getElem_cons hy, List.drop_eq_getElem_cons hx] at hd
  rw [List.drop_eq_getElem_cons hx, List.drop_eq_getElem_cons hy, steps, if_neg h, if_neg hd]

/-- what is left to be done is right: no more edits than there were -/
theorem D_keep {a b : List Int} {x y : Nat} (hx : x < a.length) (hy : y < b.length) (h : a[x] = b[y]) : D a b (x + 1) (y + 1) = D a b x y := (D_same hx hy h).symm
theorem D_drop {a b : List Int} {x y : Nat} (hx : x < a.length) (hy : y < b.length) (h : a[x] ≠ b[y]) (hd : D a b (x + 1) y ≤ D a b x (y + 1)) : D a b x y = D a b (x + 1) y + 1 := by
  rw [D_ne hx hy h, Nat.min_eq_left hd]
theorem D_put {a b : List Int} {x y : Nat} (hx : x < a.length) (hy : y < b.length) (h : a[x] ≠ b[y]) (hd : ¬ D a b (x + 1) y ≤ D a b x (y + 1)) : D a b x y = D a b x (y + 1) + 1 := by
  rw [D_ne hx hy h, Nat.min_eq_right (by omega)]
theorem D_le (a b : List Int) : D a b 0 0 ≤ a.length + b.length := by
  unfold D; simpa using dist_le _ a b (Nat.le_refl _)

theorem steps_kinds : ∀ n (a b : List Int), a.length + b.length ≤ n → (∀ k ∈ steps a b, 1 ≤ k ∧ k ≤ 3) ∧ (steps a b).length ≤ a.length + b.length := by
  intro n
  induction n with
  | zero => intro a b h; cases a <;> cases b <;> simp_all [steps]
  | succ n ih =>
    intro a b h
    match a, b with
    | [], b =>
      constructor
      · intro k hk
        unfold steps at hk
        have := List.eq_of_mem_replicate hk; omega
      · simp [steps]
    | x :: a, [] =>
      have h2 := ih a [] (by simp at h ⊢; omega)
      rw [steps]
      constructor
      · intro k hk
        rcases List.mem_cons.1 hk with e | e
        · omega
        · exact h2.1 k e
      · have := h2.2; simp at this ⊢; omega
    | x :: a, y :: b =>
      simp only [List.length_cons] at h
      rw [steps]
      split
      · have h2 := ih a b (by omega)
        constructor
        · intro k hk
          rcases List.mem_cons.1 hk with e | e
          · omega
          · exact h2.1 k e
        · have := h2.2; simp; omega
      · split
        · have h2 := ih a (y :: b) (by simp; omega)
          constructor
          · intro k hk
            rcases List.mem_cons.1 hk with e | e
            · omega
            · exact h2.1 k e
          · have := h2.2; simp at this ⊢; omega
        · have h2 := ih (x :: a) b (by simp; omega)
          constructor
          · intro k hk
            rcases List.mem_cons.1 hk with e | e
            · omega
            · exact h2.1 k e
          · have := h2.2; simp at this ⊢; omega

end Go.Proofs.Ytlilamlolnkboaa.My
