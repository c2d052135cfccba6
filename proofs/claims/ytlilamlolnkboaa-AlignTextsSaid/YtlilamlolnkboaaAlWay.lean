/- Plain facts: the steps of two lists of texts are a way, and no put stands right ahead of a drop. -/
import Derived.Test.YtlilamlolnkboaaAlPlain
import Derived.Test.YtlilamlolnkboaaNumPlain
import Derived.Test.YtlilamlolnkboaaMySteps
namespace Go.Proofs.Ytlilamlolnkboaa
open Num (ix add rowOf rowsOf)
open My (steps S)
set_option linter.unusedVariables false

def Way {α : Type} (a b : List α) : Nat → Nat → List Nat → Prop
  | x, y, [] => x = a.length ∧ y = b.length
  | x, y, k :: r => (k = 1 ∧ (∃ (hx : x < a.length) (hy : y < b.length), a[x] = b[y]) ∧ Way a b (x + 1) (y + 1) r) ∨ (k = 2 ∧ Way a b (x + 1) y r) ∨ (k = 3 ∧ Way a b x (y + 1) r)
theorem Way.drops {α : Type} {a b : List α} {r : List Nat} : ∀ {d x y : Nat}, Way a b x y (List.replicate d 2 ++ r) ↔ Way a b (x + d) y r
  | 0, x, y => by simp
  | d + 1, x, y => by
    rw [List.replicate_succ, List.cons_append, Way]
    simp only [Nat.reduceEqDiff, false_and, or_false, false_or, true_and]
    rw [Way.drops, Nat.add_assoc, Nat.add_comm 1 d]
theorem Way.puts {α : Type} {a b : List α} {r : List Nat} : ∀ {d x y : Nat}, Way a b x y (List.replicate d 3 ++ r) ↔ Way a b x (y + d) r
  | 0, x, y => by simp
  | d + 1, x, y => by
    rw [List.replicate_succ, List.cons_append, Way]
    simp only [Nat.reduceEqDiff, false_and, false_or, true_and]
    rw [Way.puts, Nat.add_assoc, Nat.add_comm 1 d]
theorem Way.tidy {α : Type} {a b : List α} : ∀ (l : List Nat) (d p x y : Nat), Way a b (x + d) (y + p) l → Way a b x y (tidyK d p l)
  | [], d, p, x, y, h => by
    rw [tidyK_nil]
    have : List.replicate d 2 ++ List.replicate p 3 = List.replicate d 2 ++ (List.replicate p 3 ++ []) := by simp
    rw [this, Way.drops, Way.puts]
    exact h
  | k :: r, d, p, x, y, h => by
    rw [Way] at h
    rcases h with ⟨rfl, h1, h2⟩ | ⟨rfl, h2⟩ | ⟨rfl, h2⟩
    · rw [tidyK_keep, Way.drops, Way.puts, Way]
      exact .inl ⟨rfl, h1, Way.tidy r 0 0 _ _ h2⟩
    · rw [tidyK_drop]
      exact Way.tidy r (d + 1) p x y (by rw [Nat.add_assoc] at h2; exact h2)
    · rw [tidyK_put]
      exact Way.tidy r d (p + 1) x y (by rw [Nat.add_assoc y] at h2; exact h2)
theorem Way.steps {a b : List Int} : ∀ (n x y : Nat), x ≤ a.length → y ≤ b.length → a.length + b.length ≤ x + y + n → Way a b x y (S a b x y)
  | 0, x, y, hx, hy, h => by
    obtain rfl : x = a.length := by omega
    obtain rfl : y = b.length := by omega
    rw [My.S_done]; exact ⟨rfl, rfl⟩
  | n + 1, x, y, hx, hy, h => by
    by_cases ex : x = a.length
    · subst ex
      by_cases ey : y = b.length
      · subst ey; rw [My.S_done]; exact ⟨rfl, rfl⟩
      · rw [My.S_put_end (by omega), Way]
        exact .inr (.inr ⟨rfl, Way.steps n _ _ (by omega) (by omega) (by omega)⟩)
    · by_cases ey : y = b.length
      · subst ey
        rw [My.S_drop_end (by omega), Way]
        exact .inr (.inl ⟨rfl, Way.steps n _ _ (by omega) (by omega) (by omega)⟩)
      · have h1 : x < a.length := by omega
        have h2 : y < b.length := by omega
        by_cases e : a[x] = b[y]
        · rw [My.S_keep h1 h2 e, Way]
          exact .inl ⟨rfl, ⟨h1, h2, e⟩, Way.steps n _ _ (by omega) (by omega) (by omega)⟩
        · by_cases hd : My.D a b (x + 1) y ≤ My.D a b x (y + 1)
          · rw [My.S_drop h1 h2 e hd, Way]
            exact .inr (.inl ⟨rfl, Way.steps n _ _ (by omega) (by omega) (by omega)⟩)
          · rw [My.S_put h1 h2 e hd, Way]
            exact .inr (.inr ⟨rfl, Way.steps n _ _ (by omega) (by omega) (by omega)⟩)
theorem Way.map {α β : Type} {a b : List α} {a' b' : List β} (h1 : a.length = a'.length) (h2 : b.length = b'.length) (h : ∀ x y (hx : x < a.length) (hy : y < b.length), a[x] = b[y] → a'[x]'(by omega) = b'[y]'(by omega)) :
    ∀ (l : List Nat) (x y : Nat), Way a b x y l → Way a' b' x y l
  | [], x, y, hw => by rw [Way] at hw ⊢; omega
  | k :: r, x, y, hw => by
    rw [Way] at hw ⊢
    rcases hw with ⟨rfl, ⟨hx, hy, he⟩, h3⟩ | ⟨rfl, h3⟩ | ⟨rfl, h3⟩
    · exact .inl ⟨rfl, ⟨by omega, by omega, h x y hx hy he⟩, Way.map h1 h2 h r _ _ h3⟩
    · exact .inr (.inl ⟨rfl, Way.map h1 h2 h r _ _ h3⟩)
    · exact .inr (.inr ⟨rfl, Way.map h1 h2 h r _ _ h3⟩)

theorem add_mem {kn : List ByteArray} {s t : ByteArray} (h : s ∈ kn) : s ∈ add kn t := by
  unfold add; split
  · simp [h]
  · exact h
theorem add_self (kn : List ByteArray) (s : ByteArray) : s ∈ add kn s := by
  unfold add; split
  · simp
  · rename_i h
    have := Num.ix_le kn s
    exact Num.ix_mem.1 (by omega)
theorem ix_add {kn : List ByteArray} {s t : ByteArray} (h : s ∈ kn) : ix (add kn t) s = ix kn s := by
  unfold add; split
  · exact Num.ix_append_of_mem (Num.ix_mem.2 h)
  · rfl
theorem foldl_mem {s : ByteArray} : ∀ {l kn : List ByteArray}, s ∈ kn → s ∈ l.foldl add kn
  | [], kn, h => h
  | t :: r, kn, h => foldl_mem (l := r) (add_mem h)
theorem foldl_mem' {s : ByteArray} : ∀ {l kn : List ByteArray}, s ∈ l → s ∈ l.foldl add kn
  | t :: r, kn, h => by
    rcases List.mem_cons.1 h with rfl | h
    · rw [List.foldl_cons]; exact foldl_mem (add_self _ _)
    · rw [List.foldl_cons]; exact foldl_mem' h
theorem ix_foldl {s : ByteArray} : ∀ {l kn : List ByteArray}, s ∈ kn → ix (l.foldl add kn) s = ix kn s
  | [], kn, h => rfl
  | t :: r, kn, h => by rw [List.foldl_cons, ix_foldl (add_mem h), ix_add h]
theorem rowOf_at : ∀ (l kn : List ByteArray) (i : Nat) (h : i < l.length), (rowOf kn l)[i]? = some ((ix (l.foldl add kn) l[i] : Nat) : Int)
  | s :: r, kn, 0, h => by
    simp only [rowOf, List.foldl_cons, List.getElem?_cons_zero, List.getElem_cons_zero]
    rw [ix_foldl (add_self _ _)]
    congr 2
    unfold add; split
    · rename_i h2; rw [Num.ix_append_new h2, h2]
    · rfl
  | s :: r, kn, i + 1, h => by
    simp only [rowOf, List.foldl_cons, List.getElem?_cons_succ, List.getElem_cons_succ]
    exact rowOf_at r (add kn s) i (by simpa using h)
theorem rows_tell (la lb : List ByteArray) (x y : Nat) (hx : x < (rowOf [] la).length) (hy : y < (rowOf (la.foldl add []) lb).length) (he : (rowOf [] la)[x] = (rowOf (la.foldl add []) lb)[y]) :
    la[x]'(by rw [Num.rowOf_len] at hx; exact hx) = lb[y]'(by rw [Num.rowOf_len] at hy; exact hy) := by
  have hx' := hx; have hy' := hy
  rw [Num.rowOf_len] at hx' hy'
  have e1 := rowOf_at la [] x hx'
  have e2 := rowOf_at lb (la.foldl add []) y hy'
  rw [List.getElem?_eq_getElem hx] at e1
  rw [List.getElem?_eq_getElem hy] at e2
  have e3 : (ix (la.foldl add []) la[x] : Int) = (ix (lb.foldl add (la.foldl add [])) lb[y] : Int) := by
    rw [← Option.some.inj e1, ← Option.some.inj e2]; exact he
  have m1 : la[x] ∈ la.foldl add [] := foldl_mem' (List.getElem_mem _)
  have m2 : lb[y] ∈ lb.foldl add (la.foldl add []) := foldl_mem' (List.getElem_mem _)
  rw [← ix_foldl (l := lb) m1] at e3
  have e4 : ix (lb.foldl add (la.foldl add [])) la[x] = ix (lb.foldl add (la.foldl add [])) lb[y] := by omega
  have p1 := Num.ix_at (Num.ix_mem.2 (foldl_mem (l := lb) m1))
  have p2 := Num.ix_at (Num.ix_mem.2 m2)
  rw [← p1, ← p2]
  simp only [e4]
theorem way_texts (la lb : List ByteArray) : Way la lb 0 0 (tidyK 0 0 (steps (rowOf [] la) (rowOf (la.foldl add []) lb))) := by
  refine Way.map (Num.rowOf_len _ _) (Num.rowOf_len _ _) (rows_tell la lb) _ _ _ (Way.tidy _ 0 0 0 0 ?_)
  have := Way.steps (a := rowOf [] la) (b := rowOf (la.foldl add []) lb) ((rowOf [] la).length + (rowOf (la.foldl add []) lb).length) 0 0 (Nat.zero_le _) (Nat.zero_le _) (by omega)
  rw [My.S_start] at this
  exact this

/-- no put stands right ahead of a drop -/
def NoPD : List Nat → Prop
  | [] => True
  | [_] => True
  | a :: b :: r => ¬ (a = 3 ∧ b = 2) ∧ NoPD (b :: r)
theorem NoPD.cons {a : Nat} {l : List Nat} (h : NoPD l) (ha : a = 3 → l.head? ≠ some 2) : NoPD (a :: l) := by
  cases l with
  | nil => trivial
  | cons b r => exact ⟨fun e => ha e.1 (by simp [e.2]), h⟩
theorem NoPD.rep2 {l : List Nat} (h : NoPD l) : ∀ d, NoPD (List.replicate d 2 ++ l)
  | 0 => by simpa using h
  | d + 1 => by rw [List.replicate_succ, List.cons_append]; exact (NoPD.rep2 h d).cons (by omega)
theorem NoPD.rep3 {l : List Nat} (h : NoPD l) (h2 : l.head? ≠ some 2) : ∀ d, NoPD (List.replicate d 3 ++ l)
  | 0 => by simpa using h
  | d + 1 => by
    rw [List.replicate_succ, List.cons_append]
    refine (NoPD.rep3 h h2 d).cons (fun _ => ?_)
    cases d with
    | zero => simpa using h2
    | succ d => simp [List.replicate_succ]
theorem NoPD.tidy : ∀ (l : List Nat) (d p : Nat), (∀ k ∈ l, 1 ≤ k ∧ k ≤ 3) → NoPD (tidyK d p l)
  | [], d, p, h => by
    rw [tidyK_nil]
    have := NoPD.rep3 (l := []) trivial (by simp) p
    rw [List.append_nil] at this
    exact NoPD.rep2 this d
  | k :: r, d, p, h => by
    have hk := h k (by simp)
    have hr : ∀ k ∈ r, 1 ≤ k ∧ k ≤ 3 := fun x hx => h x (by simp [hx])
    have : k = 1 ∨ k = 2 ∨ k = 3 := by omega
    rcases this with rfl | rfl | rfl
    · rw [tidyK_keep]
      exact NoPD.rep2 (NoPD.rep3 ((NoPD.tidy r 0 0 hr).cons (by omega)) (by simp) p) d
    · rw [tidyK_drop]; exact NoPD.tidy r _ _ hr
    · rw [tidyK_put]; exact NoPD.tidy r _ _ hr
theorem NoPD.at : ∀ {l : List Nat} {i : Nat}, NoPD l → (h : i + 1 < l.length) → ¬ (l[i] = 3 ∧ l[i + 1] = 2)
  | a :: b :: r, 0, hl, h => by simpa using hl.1
  | a :: b :: r, i + 1, hl, h => by
    have := NoPD.at (l := b :: r) (i := i) hl.2 (by simpa using h)
    simpa using this

/-- how many keeps -/
def keeps (l : List Nat) : Nat := (l.filter (· = 1)).length
theorem keeps_cons (k : Nat) (r : List Nat) : keeps (k :: r) = (if k = 1 then 1 else 0) + keeps r := by
  unfold keeps
  by_cases h : k = 1 <;> simp [h, Nat.add_comm]
theorem keeps_le (l : List Nat) : keeps l ≤ l.length := List.length_filter_le _ _

theorem placed_drop : ∀ (l : List Nat) (x y i : Nat), (placed x y l).drop i = placed (endX x (l.take i)) (endY y (l.take i)) (l.drop i)
  | l, x, y, 0 => by simp [endX, endY]
  | [], x, y, i + 1 => by simp [placed]
  | k :: r, x, y, i + 1 => by simp only [placed, List.drop_succ_cons, List.take_succ_cons, endX, endY]; exact placed_drop r _ _ i
theorem placed_at {l : List Nat} {i : Nat} (x y : Nat) (h : i < l.length) : (placed x y l)[i]'(by rw [placed_len]; exact h) = stepOf l[i] (endX x (l.take i)) (endY y (l.take i)) := by
  have h1 := placed_drop l x y i
  rw [List.drop_eq_getElem_cons h, List.drop_eq_getElem_cons (by rw [placed_len]; exact h), placed] at h1
  exact (List.cons.inj h1).1
theorem Way.at {α : Type} {a b : List α} : ∀ {l : List Nat} {x y i : Nat}, Way a b x y l → Way a b (endX x (l.take i)) (endY y (l.take i)) (l.drop i)
  | l, x, y, 0, h => by simpa [endX, endY] using h
  | [], x, y, i + 1, h => by simpa [endX, endY] using h
  | k :: r, x, y, i + 1, h => by
    rw [Way] at h
    simp only [List.take_succ_cons, List.drop_succ_cons, endX, endY]
    rcases h with ⟨rfl, _, h⟩ | ⟨rfl, h⟩ | ⟨rfl, h⟩ <;> exact Way.at (by simpa [nextX, nextY] using h)

theorem alive_kinds : tidyK 0 0 (steps (rowOf [] [⟨#[97]⟩, ⟨#[98]⟩]) (rowOf ([⟨#[97]⟩, ⟨#[98]⟩].foldl add []) [⟨#[98]⟩, ⟨#[99]⟩])) = [2, 1, 3] := by
  have h1 : rowOf [] [⟨#[97]⟩, ⟨#[98]⟩] = [0, 1] := by decide +kernel
  have h2 : rowOf ([⟨#[97]⟩, ⟨#[98]⟩].foldl add []) [⟨#[98]⟩, ⟨#[99]⟩] = [1, 2] := by decide +kernel
  rw [h1, h2]
  decide +kernel

end Go.Proofs.Ytlilamlolnkboaa
