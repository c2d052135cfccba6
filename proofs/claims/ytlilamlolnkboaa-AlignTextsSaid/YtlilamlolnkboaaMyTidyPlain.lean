/- Plain facts: steps put in order. -/
import Derived.Test.YtlilamlolnkboaaMyRun
namespace Go.Proofs.Ytlilamlolnkboaa
set_option linter.unusedVariables false

def tidyK : Nat → Nat → List Nat → List Nat
  | d, p, [] => List.replicate d 2 ++ List.replicate p 3
  | d, p, k :: r => if k = 1 then List.replicate d 2 ++ (List.replicate p 3 ++ 1 :: tidyK 0 0 r) else if k = 2 then tidyK (d + 1) p r else if k = 3 then tidyK d (p + 1) r else tidyK d p r

theorem tidyK_nil (d p : Nat) : tidyK d p [] = List.replicate d 2 ++ List.replicate p 3 := rfl
theorem tidyK_keep (d p : Nat) (r : List Nat) : tidyK d p (1 :: r) = List.replicate d 2 ++ (List.replicate p 3 ++ 1 :: tidyK 0 0 r) := by simp [tidyK]
theorem tidyK_drop (d p : Nat) (r : List Nat) : tidyK d p (2 :: r) = tidyK (d + 1) p r := by simp [tidyK]
theorem tidyK_put (d p : Nat) (r : List Nat) : tidyK d p (3 :: r) = tidyK d (p + 1) r := by simp [tidyK]
theorem tidyK_keep0 (c : Nat) (r : List Nat) : tidyK 0 0 (List.replicate c 1 ++ r) = List.replicate c 1 ++ tidyK 0 0 r := by
  induction c with
  | zero => simp
  | succ c ih => rw [List.replicate_succ, List.cons_append, tidyK_keep, ih]; simp
theorem tidyK_keeps (d p c : Nat) (hc : 1 ≤ c) (r : List Nat) : tidyK d p (List.replicate c 1 ++ r) = (List.replicate d 2 ++ List.replicate p 3) ++ (List.replicate c 1 ++ tidyK 0 0 r) := by
  obtain ⟨c, rfl⟩ : ∃ c', c = c' + 1 := ⟨c - 1, by omega⟩
  rw [List.replicate_succ, List.cons_append, tidyK_keep, tidyK_keep0]; simp
theorem tidyK_drops (d p c : Nat) (r : List Nat) : tidyK d p (List.replicate c 2 ++ r) = tidyK (d + c) p r := by
  induction c generalizing d with
  | zero => simp
  | succ c ih => rw [List.replicate_succ, List.cons_append, tidyK_drop, ih]; congr 1; omega
theorem tidyK_puts (d p c : Nat) (r : List Nat) : tidyK d p (List.replicate c 3 ++ r) = tidyK d (p + c) r := by
  induction c generalizing p with
  | zero => simp
  | succ c ih => rw [List.replicate_succ, List.cons_append, tidyK_put, ih]; congr 1; omega
theorem tidyK_len : ∀ (l : List Nat) (d p : Nat), (tidyK d p l).length ≤ d + p + l.length ∧ d + p ≤ (tidyK d p l).length
  | [], d, p => by simp [tidyK]
  | k :: r, d, p => by
    unfold tidyK
    have h1 := tidyK_len r 0 0
    have h2 := tidyK_len r (d + 1) p
    have h3 := tidyK_len r d (p + 1)
    have h4 := tidyK_len r d p
    simp only [List.length_cons]
    split
    · simp only [List.length_append, List.length_replicate, List.length_cons]; omega
    · split
      · omega
      · split <;> omega
theorem tidyK_kinds : ∀ (l : List Nat) (d p : Nat), ∀ k ∈ tidyK d p l, 1 ≤ k ∧ k ≤ 3
  | [], d, p, k, h => by
    rcases List.mem_append.1 h with h | h <;> have := List.eq_of_mem_replicate h <;> omega
  | x :: r, d, p, k, h => by
    unfold tidyK at h
    split at h
    · rcases List.mem_append.1 h with h | h
      · have := List.eq_of_mem_replicate h; omega
      · rcases List.mem_append.1 h with h | h
        · have := List.eq_of_mem_replicate h; omega
        · rcases List.mem_cons.1 h with h | h
          · omega
          · exact tidyK_kinds r 0 0 k h
    · split at h
      · exact tidyK_kinds r _ _ k h
      · split at h
        · exact tidyK_kinds r _ _ k h
        · exact tidyK_kinds r _ _ k h

def Good (rs : List (Nat × Nat)) : Prop := ∀ r ∈ rs, 1 ≤ r.1 ∧ r.1 ≤ 3 ∧ 1 ≤ r.2
theorem Good.add {rs : List (Nat × Nat)} (h : Good rs) {k c : Nat} (hk1 : 1 ≤ k) (hk2 : k ≤ 3) : Good (addR rs k c) := by
  have key : ∃ m, Runs m rs := by
    refine ⟨(rs.map (·.2)).sum, fun r hr => ?_⟩
    have h1 := h r hr
    have : r.2 ≤ (rs.map (·.2)).sum := by
      clear h h1
      induction rs with
      | nil => simp at hr
      | cons x t ih =>
        rcases List.mem_cons.1 hr with rfl | hr
        · simp
        · have := ih hr; simp; omega
    omega
  obtain ⟨m, hm⟩ := key
  intro r hr
  have := (hm.add (c := c) hk1 hk2) r hr
  omega
theorem expand_len_ge : ∀ {rs : List (Nat × Nat)}, Good rs → rs.length ≤ (expand rs).length ∧ ∀ r ∈ rs, r.2 ≤ (expand rs).length
  | [], _ => by simp
  | x :: t, h => by
    have ih := expand_len_ge (rs := t) (fun r hr => h r (by simp [hr]))
    have hx := h x (by simp)
    have e : expand (x :: t) = List.replicate x.2 x.1 ++ expand t := by simp [expand]
    rw [e, List.length_append, List.length_replicate]
    refine ⟨by simp only [List.length_cons]; omega, fun r hr => ?_⟩
    rcases List.mem_cons.1 hr with rfl | hr
    · omega
    · have := ih.2 r hr; omega
theorem Good.runs {rs : List (Nat × Nat)} (h : Good rs) {m : Nat} (hm : (expand rs).length ≤ m) : Runs m rs := fun r hr => by
  have h1 := h r hr
  have h2 := (expand_len_ge h).2 r hr
  omega
theorem expand_cons (x : Nat × Nat) (t : List (Nat × Nat)) : expand (x :: t) = List.replicate x.2 x.1 ++ expand t := by simp [expand]

/-- the state of Tidy at its loop's head -/
def TInv (rs o : List (Nat × Nat)) (k d p : Nat) : Prop := Good o ∧ expand o ++ tidyK d p (expand (rs.drop k)) = tidyK 0 0 (expand rs)
theorem TInv.start (rs : List (Nat × Nat)) : TInv rs [] 0 0 0 := ⟨fun r hr => by simp at hr, by simp [expand]⟩
theorem TInv.bound {rs o : List (Nat × Nat)} {k d p : Nat} (h : TInv rs o k d p) : (expand o).length + d + p ≤ (expand rs).length := by
  have h1 := congrArg List.length h.2
  have h2 := (tidyK_len (expand rs) 0 0).1
  have h3 := (tidyK_len (expand (rs.drop k)) d p).2
  rw [List.length_append] at h1
  omega
theorem TInv.drop {rs o : List (Nat × Nat)} {k d p c : Nat} (h : TInv rs o k d p) (hk : k < rs.length) (he : rs[k] = (2, c)) : TInv rs o (k + 1) (d + c) p := by
  refine ⟨h.1, ?_⟩
  have := h.2
  rw [List.drop_eq_getElem_cons hk, he, expand_cons, tidyK_drops] at this
  exact this
theorem TInv.put {rs o : List (Nat × Nat)} {k d p c : Nat} (h : TInv rs o k d p) (hk : k < rs.length) (he : rs[k] = (3, c)) : TInv rs o (k + 1) d (p + c) := by
  refine ⟨h.1, ?_⟩
  have := h.2
  rw [List.drop_eq_getElem_cons hk, he, expand_cons, tidyK_puts] at this
  exact this
theorem TInv.keep {rs o : List (Nat × Nat)} {k d p c : Nat} (h : TInv rs o k d p) (hk : k < rs.length) (he : rs[k] = (1, c)) (hc : 1 ≤ c) : TInv rs (addR (addR (addR o 2 d) 3 p) 1 c) (k + 1) 0 0 := by
  refine ⟨((h.1.add (by omega) (by omega)).add (by omega) (by omega)).add (by omega) (by omega), ?_⟩
  have := h.2
  rw [List.drop_eq_getElem_cons hk, he, expand_cons, tidyK_keeps _ _ _ hc] at this
  rw [expand_add, expand_add, expand_add, ← this]
  simp
theorem TInv.last {rs o : List (Nat × Nat)} {d p : Nat} (h : TInv rs o rs.length d p) : Good (addR (addR o 2 d) 3 p) ∧ expand (addR (addR o 2 d) 3 p) = tidyK 0 0 (expand rs) := by
  refine ⟨(h.1.add (by omega) (by omega)).add (by omega) (by omega), ?_⟩
  have := h.2
  rw [List.drop_length] at this
  rw [expand_add, expand_add, ← this]
  simp [expand, tidyK]

end Go.Proofs.Ytlilamlolnkboaa
