/- What holds at a round of apply.row. -/
import Derived.Test.YtkldcjlkeblggaaDoorDOf
namespace Go.Proofs.YtkldcjlkeblggaaDoor
open Go.RowKit
open Val (V E cmp right eright esm esmS v0 Res ado adoS get find withV putV vmx vmxL esz eszS partB stepB allS mkL)
set_option linter.unusedVariables false

def Val.rowR (e : E) (v : V) : Res V := if v.kind = 4 ∨ v.kind = 0 then (match adoS e.steps v.list [] with
      | .bad b => .bad b
      | .ok p => if 0 < p.1.length then .bad 13 else .ok (mkL p.2)) else .bad 13
theorem Val.stepR_le {k c : Int} {v : V} {e : E} {l o : List V} {p : List V × List V} (h : Val.stepR k c v e l o = .ok p) : (∀ y ∈ p.1, y ∈ l) ∧ p.2.length + p.1.length ≤ o.length + l.length + 1 := by
  unfold Val.stepR Val.keepR Val.dropR Val.changeR at h
  split at h
  · split at h
    · cases h
    · cases h
      exact ⟨fun y hy => List.mem_of_mem_drop hy, by simp only [List.length_append, List.length_drop, List.length_take]; omega⟩
  · split at h
    · split at h
      · cases h
      · split at h
        · cases h
          exact ⟨fun y hy => List.mem_cons_of_mem _ hy, by simp only [List.length_cons]; omega⟩
        · cases h
    · split at h
      · cases h
        exact ⟨fun y hy => hy, by simp only [List.length_append, List.length_cons, List.length_nil]; omega⟩
      · split at h
        · cases h
        · split at h
          · cases h
          · split at h
            · cases h
              exact ⟨fun y hy => List.mem_cons_of_mem _ hy, by simp only [List.length_append, List.length_cons, List.length_nil]; omega⟩
            · cases h

def RowInv (s : List (Int × Int × V × E)) (v : V) (k : Nat) (l o : List V) : Prop :=
  adoS s v.list [] = adoS (s.drop k) l o ∧ (∀ y ∈ l, y ∈ v.list) ∧ o.length + l.length ≤ v.list.length + k
theorem RowInv.start (s : List (Int × Int × V × E)) (v : V) : RowInv s v 0 v.list [] := ⟨by simp, fun _ h => h, by simp⟩
theorem RowInv.drop {s : List (Int × Int × V × E)} {v : V} {k : Nat} {l o : List V} (h : RowInv s v k l o) (hk : k < s.length) (hst : allS s) : adoS s v.list [] = match Val.stepR s[k].1 s[k].2.1 s[k].2.2.1 s[k].2.2.2 l o with
    | .bad b => .bad b
    | .ok p => adoS (s.drop (k + 1)) p.1 p.2 := by
  rw [h.1, List.drop_eq_getElem_cons hk]
  have := hst _ (List.getElem_mem hk)
  generalize s[k] = q at *
  obtain ⟨a, b, c, d⟩ := q
  exact Val.adoS_step a b c d _ l o (fun e => by
    rcases this with ⟨_, h1, _⟩ | ⟨h1, _⟩ | ⟨h1, _⟩ | ⟨h1, _⟩
    · show 0 ≤ b; have h1 : 1 ≤ b := h1; omega
    all_goals (have h1 : a = _ := h1; omega))
theorem RowInv.step {s : List (Int × Int × V × E)} {v : V} {k : Nat} {l o l' o' : List V} (h : RowInv s v k l o) (hk : k < s.length) (hst : allS s) (hr : Val.stepR s[k].1 s[k].2.1 s[k].2.2.1 s[k].2.2.2 l o = .ok (l', o')) : RowInv s v (k + 1) l' o' := by
  have h2 := Val.stepR_le hr
  refine ⟨?_, fun y hy => h.2.1 y (h2.1 y hy), ?_⟩
  · rw [h.drop hk hst, hr]
  · have h3 := h.2.2
    have h4 : o'.length + l'.length ≤ o.length + l.length + 1 := h2.2
    omega
theorem RowInv.bad {s : List (Int × Int × V × E)} {v : V} {k b : Nat} {l o : List V} (h : RowInv s v k l o) (hk : k < s.length) (hst : allS s) (hr : Val.stepR s[k].1 s[k].2.1 s[k].2.2.1 s[k].2.2.2 l o = .bad b) : adoS s v.list [] = .bad b := by
  rw [h.drop hk hst, hr]
theorem RowInv.fin {s : List (Int × Int × V × E)} {v : V} {l o : List V} (h : RowInv s v s.length l o) : adoS s v.list [] = .ok (l, o) := by
  rw [h.1, List.drop_length, adoS]
theorem Val.eszS_at : ∀ {s : List (Int × Int × V × E)} {k : Nat} (hk : k < s.length), esz s[k].2.2.2 ≤ eszS s ∧ s.length ≤ eszS s
  | (a, b, c, d) :: r, 0, hk => by
    rw [eszS]
    have h2 : r.length ≤ eszS r := by
      cases r with
      | nil => simp
      | cons q r => exact (Val.eszS_at (s := q :: r) (k := 0) (by simp)).2
    simp only [List.getElem_cons_zero, List.length_cons]
    omega
  | (a, b, c, d) :: r, k + 1, hk => by
    rw [eszS]
    have h2 := Val.eszS_at (s := r) (k := k) (by simpa using hk)
    simp only [List.getElem_cons_succ, List.length_cons]
    omega

end Go.Proofs.YtkldcjlkeblggaaDoor
