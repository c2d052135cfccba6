/- Plain facts: texts as numbers, by their first places; lists with no two that are the same. -/
namespace Go.Proofs.YtiofhfcohhfihaaGreatDoor.Num

/-- the place of a text in a list; its length: none -/
def ix : List ByteArray → ByteArray → Nat
  | [], _ => 0
  | x :: r, s => if x = s then 0 else ix r s + 1
def add (kn : List ByteArray) (s : ByteArray) : List ByteArray := if ix kn s = kn.length then kn ++ [s] else kn
def rowOf : List ByteArray → List ByteArray → List Int
  | _, [] => []
  | kn, s :: r => (ix kn s : Int) :: rowOf (add kn s) r
def rowsOf : List ByteArray → List (List ByteArray) → List (List Int)
  | _, [] => []
  | kn, l :: r => rowOf kn l :: rowsOf (l.foldl add kn) r

theorem ix_le (kn : List ByteArray) (s : ByteArray) : ix kn s ≤ kn.length := by
  induction kn with
  | nil => exact Nat.le_refl _
  | cons x r ih => unfold ix; split; omega; simp only [List.length_cons]; omega
theorem ix_mem {kn : List ByteArray} {s : ByteArray} : ix kn s < kn.length ↔ s ∈ kn := by
  induction kn with
  | nil => simp [ix]
  | cons x r ih =>
    unfold ix
    split
    · rename_i h; simp [h]
    · rename_i h
      simp only [List.length_cons, List.mem_cons]
      rw [Nat.add_lt_add_iff_right, ih]
      constructor
      · exact .inr
      · rintro (e | e)
        · exact absurd e.symm h
        · exact e
theorem ix_at {kn : List ByteArray} {s : ByteArray} (h : ix kn s < kn.length) : kn[ix kn s] = s := by
  induction kn with
  | nil => simp [ix] at h
  | cons x r ih =>
    by_cases e : x = s
    · simp [ix, e]
    · have h2 : ix (x :: r) s = ix r s + 1 := by simp [ix, e]
      simp only [h2, List.getElem_cons_succ]
      exact ih (by rw [h2] at h; simpa using h)
theorem ix_first {kn : List ByteArray} {s : ByteArray} : ∀ {j : Nat} (hj : j < kn.length), j < ix kn s → kn[j] ≠ s := by
  induction kn with
  | nil => intro j hj; simp at hj
  | cons x r ih =>
    intro j hj h
    unfold ix at h
    split at h
    · omega
    · rename_i e
      cases j with
      | zero => exact e
      | succ j => exact ih (by simpa using hj) (by omega)
theorem ix_of {kn : List ByteArray} {s : ByteArray} {k : Nat} (hk : k ≤ kn.length) (h1 : ∀ j (hj : j < kn.length), j < k → kn[j] ≠ s) (h2 : ∀ h : k < kn.length, kn[k] = s) : ix kn s = k := by
  rcases Nat.lt_trichotomy (ix kn s) k with e | e | e
  · exact absurd (ix_at (by omega)) (h1 _ (by omega) e)
  · exact e
  · have := ix_le kn s
    exact absurd (h2 (by omega)) (ix_first (by omega) e)
theorem ix_append_of_mem {kn : List ByteArray} {s t : ByteArray} (h : ix kn s < kn.length) : ix (kn ++ [t]) s = ix kn s := by
  refine ix_of (by simp; omega) (fun j hj hlt => ?_) (fun hh => ?_)
  · rw [List.getElem_append_left (by omega)]; exact ix_first _ hlt
  · rw [List.getElem_append_left h]; exact ix_at h
theorem ix_append_new {kn : List ByteArray} {s : ByteArray} (h : ix kn s = kn.length) : ix (kn ++ [s]) s = kn.length := by
  refine ix_of (by simp) (fun j hj hlt => ?_) (fun hh => by simp)
  rw [List.getElem_append_left hlt]; exact ix_first _ (by omega)
theorem ix_append_other {kn : List ByteArray} {s t : ByteArray} (h : ix kn s = kn.length) (hne : t ≠ s) : ix (kn ++ [t]) s = (kn ++ [t]).length := by
  refine ix_of (Nat.le_refl _) (fun j hj hlt => ?_) (fun hh => absurd hh (by omega))
  rw [List.getElem_append]
  split
  · exact ix_first _ (by omega)
  · simpa using hne

theorem rowOf_snoc (s : ByteArray) : ∀ (l kn : List ByteArray), rowOf kn (l ++ [s]) = rowOf kn l ++ [(ix (l.foldl add kn) s : Int)]
  | [], _ => rfl
  | x :: r, kn => by simp only [List.cons_append, rowOf, rowOf_snoc s r, List.foldl_cons]
theorem rowOf_len : ∀ (l kn : List ByteArray), (rowOf kn l).length = l.length
  | [], _ => rfl
  | x :: r, kn => by simp [rowOf, rowOf_len r]
/-- what is known after all lists -/
def knownOf (ls : List (List ByteArray)) : List ByteArray := ls.foldl (fun k l => l.foldl add k) []
theorem rowsOf_snoc_from (l : List ByteArray) : ∀ (ls : List (List ByteArray)) (kn : List ByteArray), rowsOf kn (ls ++ [l]) = rowsOf kn ls ++ [rowOf (ls.foldl (fun k l => l.foldl add k) kn) l]
  | [], _ => rfl
  | x :: r, kn => by simp only [List.cons_append, rowsOf, rowsOf_snoc_from l r, List.foldl_cons]
theorem rowsOf_snoc (l : List ByteArray) (ls : List (List ByteArray)) : rowsOf [] (ls ++ [l]) = rowsOf [] ls ++ [rowOf (knownOf ls) l] := rowsOf_snoc_from l ls []
theorem knownOf_snoc (l : List ByteArray) (ls : List (List ByteArray)) : knownOf (ls ++ [l]) = l.foldl add (knownOf ls) := by unfold knownOf; rw [List.foldl_append]; rfl
theorem rowsOf_len : ∀ (ls : List (List ByteArray)) (kn : List ByteArray), (rowsOf kn ls).length = ls.length
  | [], _ => rfl
  | x :: r, kn => by simp [rowsOf, rowsOf_len r]
theorem add_len (kn : List ByteArray) (s : ByteArray) : (add kn s).length ≤ kn.length + 1 := by unfold add; split <;> simp
theorem foldl_len : ∀ (l kn : List ByteArray), (l.foldl add kn).length ≤ kn.length + l.length
  | [], _ => Nat.le_refl _
  | x :: r, kn => by
    have h1 := foldl_len r (add kn x)
    have h2 := add_len kn x
    simp only [List.foldl_cons, List.length_cons]
    omega
def total (ls : List (List ByteArray)) : Nat := (ls.map List.length).sum
theorem knownOf_len : ∀ (ls : List (List ByteArray)) (kn : List ByteArray), (ls.foldl (fun k l => l.foldl add k) kn).length ≤ kn.length + total ls
  | [], _ => by simp [total]
  | x :: r, kn => by
    have h1 := knownOf_len r (x.foldl add kn)
    have h2 := foldl_len x kn
    simp only [List.foldl_cons, total, List.map_cons, List.sum_cons] at *
    omega
theorem mem_total {l : List ByteArray} : ∀ {ls : List (List ByteArray)}, l ∈ ls → l.length ≤ total ls
  | x :: r, h => by
    rcases List.mem_cons.1 h with rfl | h
    · simp [total]
    · have := mem_total h
      simp only [total, List.map_cons, List.sum_cons] at *
      omega
theorem take_snoc {α : Type} (l : List α) {k : Nat} (h : k < l.length) : l.take (k + 1) = l.take k ++ [l[k]] := List.take_succ_eq_append_getElem h

/-- no two texts are the same -/
def NoTwo (l : List ByteArray) : Prop := ∀ i (h : i < l.length), ¬ l[i] ∈ l.take i
/-- as long as none came twice, the numbers are the places -/
theorem ix_noTwo {l : List ByteArray} {k : Nat} (hk : k < l.length) (h : ∀ i (hi : i < l.length), i < k → ¬ l[i] ∈ l.take i) : (l.take k).foldl add [] = l.take k := by
  induction k with
  | zero => rfl
  | succ k ih =>
    have h1 := ih (by omega) (fun i hi hik => h i hi (by omega))
    rw [take_snoc l (by omega), List.foldl_append, h1]
    have h2 : ix (l.take k) l[k] = (l.take k).length := by
      have := ix_le (l.take k) l[k]
      have h3 : ¬ ix (l.take k) l[k] < (l.take k).length := fun e => h k (by omega) (by omega) (ix_mem.1 e)
      omega
    simp [add, h2]

end Go.Proofs.YtiofhfcohhfihaaGreatDoor.Num
