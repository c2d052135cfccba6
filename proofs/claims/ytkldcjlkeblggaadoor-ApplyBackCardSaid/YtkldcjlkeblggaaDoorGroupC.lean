/- Plain facts: the other way of an edit makes the value again. -/
import Derived.Test.YtkldcjlkeblggaaDoorGroupB

namespace Go.Proofs.YtkldcjlkeblggaaDoor.Val
set_option linter.unusedVariables false

abbrev St := Int × Int × V × E
/-- steps in order: one step taken -/
def lastKeep (out : List St) : Bool := match out.getLast? with
  | some s => decide (s.1 = 1)
  | none => false
def addKeep (out : List St) (c : Int) : List St :=
  if c < 1 then out else if lastKeep out = true then out.dropLast ++ (match out.getLast? with
    | some s => [(s.1, s.2.1 + c, s.2.2.1, s.2.2.2)]
    | none => []) else out ++ [(1, c, v0, .mk 0 v0 v0 [] false ByteArray.empty ByteArray.empty [] [])]
def tstep (st : List St × List St) (s : St) : List St × List St :=
  if s.1 = 1 ∧ 1 ≤ s.2.1 then (addKeep (st.1 ++ st.2) s.2.1, [])
  else if s.1 = 4 ∧ s.2.2.2.kind = 0 then (addKeep (st.1 ++ st.2) 1, [])
  else if s.1 = 4 then (st.1 ++ st.2 ++ [s], [])
  else if s.1 = 2 then (st.1 ++ [s], st.2)
  else if s.1 = 3 then (st.1, st.2 ++ [s])
  else st
def tidyFrom (st : List St × List St) (l : List St) : List St × List St := l.foldl tstep st
def tidy (l : List St) : List St := (tidyFrom ([], []) l).1 ++ (tidyFrom ([], []) l).2

mutual
/-- an edit's other way -/
def inv : E → E
  | .mk k o n f r ro rn s ks =>
    if k = 1 then .mk k n o f r ro rn s ks
    else if k = 2 then .mk k o n (invF f) r rn ro s ks
    else if k = 3 then .mk k o n f r ro rn (tidy (invS s)) ks
    else if k = 4 then .mk k o n f r ro rn s (invK ks)
    else .mk k o n f r ro rn s ks
def invF : List (Int × E) → List (Int × E)
  | [] => []
  | (n, e) :: r => (n, inv e) :: invF r
def invS : List St → List St
  | [] => []
  | (k, c, v, e) :: r => (if k = 2 then (3, c, v, e) else if k = 3 then (2, c, v, e) else if k = 4 then (4, c, v, inv e) else (k, c, v, e)) :: invS r
def invK : List (V × E) → List (V × E)
  | [] => []
  | (k, e) :: r => (k, inv e) :: invK r
end
theorem inv_kind (e : E) : (inv e).kind = e.kind := by
  cases e
  rw [inv]
  split
  · rfl
  · split
    · rfl
    · split
      · rfl
      · split <;> rfl

/-- one step's answer -/
def stepA (q : St) (l o : List V) : Res (List V × List V) := adoS [q] l o
theorem adoS_append : ∀ (a b : List St) (l o : List V), adoS (a ++ b) l o = match adoS a l o with
    | .bad n => .bad n
    | .ok p => adoS b p.1 p.2
  | [], b, l, o => by rw [adoS]; rfl
  | (k, c, v, e) :: r, b, l, o => by
    rw [List.cons_append, adoS.eq_def, adoS.eq_def ((k, c, v, e) :: r)]
    simp only
    split
    · split
      · rfl
      · exact adoS_append r b _ _
    · split
      · cases l with
        | nil => rfl
        | cons x t =>
          simp only
          split
          · exact adoS_append r b _ _
          · rfl
      · split
        · exact adoS_append r b _ _
        · cases l with
          | nil => rfl
          | cons x t =>
            simp only
            cases ado e x with
            | bad n => rfl
            | ok y =>
              simp only
              split
              · exact adoS_append r b _ _
              · rfl
theorem adoS_congr {a b : List St} (h : ∀ l o, adoS a l o = adoS b l o) (p r : List St) (l o : List V) : adoS (p ++ (a ++ r)) l o = adoS (p ++ (b ++ r)) l o := by
  rw [adoS_append, adoS_append p]
  cases adoS p l o with
  | bad n => rfl
  | ok q => simp only; rw [adoS_append, adoS_append b, h]
/-- a value that goes and values that come: in either order -/
theorem put_drop (c v e c' v' e') (l o : List V) : adoS [(3, c, v, e), (2, c', v', e')] l o = adoS [(2, c', v', e'), (3, c, v, e)] l o := by
  simp only [adoS.eq_def]
  simp
theorem keep1 (c : Int) (v : V) (e : E) (l o : List V) : adoS [(1, c, v, e)] l o = if (l.length : Int) < c then .bad 13 else .ok (l.drop c.toNat, o ++ l.take c.toNat) := by
  rw [adoS.eq_def]
  simp only [if_true]
  split
  · rfl
  · rw [adoS]
theorem puts_drop (d : St) (hd : d.1 = 2) : ∀ (puts : List St), (∀ s ∈ puts, s.1 = 3) → ∀ l o, adoS (puts ++ [d]) l o = adoS (d :: puts) l o
  | [], _, l, o => rfl
  | s :: r, h, l, o => by
    obtain ⟨dk, dc, dv, de⟩ := d
    obtain ⟨sk, sc, sv, se⟩ := s
    have h1 : sk = 3 := h (sk, sc, sv, se) (by simp)
    have h2 : dk = 2 := hd
    subst h1 h2
    have ih := puts_drop (2, dc, dv, de) rfl r (fun s hs => h s (by simp [hs]))
    have e1 := adoS_congr (a := r ++ [(2, dc, dv, de)]) (b := (2, dc, dv, de) :: r) ih [(3, sc, sv, se)] [] l o
    have e2 := adoS_congr (a := [(3, sc, sv, se), (2, dc, dv, de)]) (b := [(2, dc, dv, de), (3, sc, sv, se)]) (put_drop sc sv se dc dv de) [] r l o
    simp only [List.append_nil, List.cons_append, List.nil_append] at e1 e2 ⊢
    rw [e1, e2]
theorem keep_keep (c d : Int) (hc : 1 ≤ c) (hd : 1 ≤ d) (v e v' e' v'' e'') (l o : List V) : adoS [(1, c, v, e), (1, d, v', e')] l o = adoS [(1, c + d, v'', e'')] l o := by
  rw [show ([(1, c, v, e), (1, d, v', e')] : List St) = [(1, c, v, e)] ++ [(1, d, v', e')] from rfl, adoS_append, keep1, keep1]
  by_cases h1 : (l.length : Int) < c
  · rw [if_pos h1, if_pos (by omega)]
  · rw [if_neg h1]
    simp only
    rw [keep1, List.length_drop]
    by_cases h2 : ((l.length - c.toNat : Nat) : Int) < d
    · rw [if_pos h2, if_pos (by omega)]
    · rw [if_neg h2, if_neg (by omega)]
      have e1 : (c + d).toNat = c.toNat + d.toNat := by omega
      rw [e1, List.drop_drop, List.take_add, List.append_assoc]

/-- what tidying keeps: steps of a state, and of those still to come -/
def tgood (s : St) : Prop := (s.1 = 1 ∧ 1 ≤ s.2.1) ∨ s.1 = 2 ∨ s.1 = 3 ∨ (s.1 = 4 ∧ s.2.2.2.kind ≠ 0)
theorem last_split {l : List St} {s : St} (h : l.getLast? = some s) : l = l.dropLast ++ [s] := by
  have hne : l ≠ [] := by intro e; subst e; simp at h
  rw [List.getLast?_eq_some_getLast hne] at h
  cases h
  exact (List.dropLast_concat_getLast hne).symm
theorem addKeep_does (out : List St) (hout : ∀ s ∈ out, tgood s) (c : Int) (hc : 1 ≤ c) (v e) (l o : List V) : adoS (addKeep out c) l o = adoS (out ++ [(1, c, v, e)]) l o := by
  unfold addKeep
  rw [if_neg (by omega)]
  cases hl : out.getLast? with
  | none =>
    have : lastKeep out = false := by unfold lastKeep; rw [hl]
    rw [if_neg (by rw [this]; simp)]
    rw [adoS_append, adoS_append]
    cases adoS out l o with
    | bad n => rfl
    | ok p => simp only; rw [keep1, keep1]
  | some s =>
    by_cases hk : lastKeep out = true
    · rw [if_pos hk]
      have hs : s.1 = 1 := by unfold lastKeep at hk; rw [hl] at hk; simpa using hk
      have e0 := last_split hl
      obtain ⟨sk, sc, sv, se⟩ := s
      simp only at hs; subst hs
      have hsc : 1 ≤ sc := by
        have := hout (1, sc, sv, se) (by rw [e0]; simp)
        rcases this with h | h | h | h
        · exact h.2
        · have h : (1 : Int) = 2 := h; omega
        · have h : (1 : Int) = 3 := h; omega
        · have h : (1 : Int) = 4 := h.1; omega
      have e1 := adoS_congr (a := [(1, sc, sv, se), (1, c, v, e)]) (b := [(1, sc + c, sv, se)]) (fun l o => keep_keep sc c hsc hc sv se v e sv se l o) out.dropLast [] l o
      simp only [List.append_nil] at e1 ⊢
      rw [← e1]
      conv => rhs; rw [e0]
      simp
    · rw [if_neg hk]
      rw [adoS_append, adoS_append]
      cases adoS out l o with
      | bad n => rfl
      | ok p => simp only; rw [keep1, keep1]
theorem addKeep_good {out : List St} (hout : ∀ s ∈ out, tgood s) {c : Int} (hc : 1 ≤ c) : ∀ s ∈ addKeep out c, tgood s := by
  unfold addKeep
  rw [if_neg (by omega)]
  split
  · rename_i hk
    intro s hs
    rcases List.mem_append.1 hs with hs | hs
    · exact hout s (List.dropLast_subset _ hs)
    · cases hl : out.getLast? with
      | none => rw [hl] at hs; simp at hs
      | some q =>
        rw [hl] at hs
        simp only [List.mem_singleton] at hs
        subst hs
        have hq := hout q (List.mem_of_getLast? hl)
        have h1 : q.1 = 1 := by unfold lastKeep at hk; rw [hl] at hk; simpa using hk
        rcases hq with h | h | h | h
        · exact .inl ⟨h1, by have := h.2; show 1 ≤ q.2.1 + c; omega⟩
        · omega
        · omega
        · omega
  · intro s hs
    rcases List.mem_append.1 hs with hs | hs
    · exact hout s hs
    · simp only [List.mem_singleton] at hs
      subst hs
      exact .inl ⟨rfl, hc⟩
theorem tidy_from : ∀ (l : List St) (out puts : List St), (∀ s ∈ l, tgood s) → (∀ s ∈ out, tgood s) → (∀ s ∈ puts, s.1 = 3) → ∀ (a b : List V),
    adoS ((tidyFrom (out, puts) l).1 ++ (tidyFrom (out, puts) l).2) a b = adoS (out ++ puts ++ l) a b
  | [], out, puts, _, _, _, a, b => by simp [tidyFrom]
  | s :: r, out, puts, hl, ho, hp, a, b => by
    have hs := hl s (by simp)
    have hr : ∀ s ∈ r, tgood s := fun s h => hl s (by simp [h])
    have hop : ∀ s ∈ out ++ puts, tgood s := fun s h => by
      rcases List.mem_append.1 h with h | h
      · exact ho s h
      · exact .inr (.inr (.inl (hp s h)))
    have e : tidyFrom (out, puts) (s :: r) = tidyFrom (tstep (out, puts) s) r := rfl
    rw [e]
    obtain ⟨k, c, v, x⟩ := s
    rcases hs with ⟨h1, h2⟩ | h1 | h1 | ⟨h1, h2⟩
    · simp only at h1 h2; subst h1
      have e2 : tstep (out, puts) (1, c, v, x) = (addKeep (out ++ puts) c, []) := by unfold tstep; exact if_pos ⟨rfl, h2⟩
      rw [e2, tidy_from r _ _ hr (addKeep_good hop h2) (fun s h => by cases h), List.append_nil, adoS_append, addKeep_does _ hop c h2 v x]
      rw [← adoS_append]
      simp
    · simp only at h1; subst h1
      have e2 : tstep (out, puts) (2, c, v, x) = (out ++ [(2, c, v, x)], puts) := by unfold tstep; simp
      rw [e2, tidy_from r _ _ hr (fun s h => by
        rcases List.mem_append.1 h with h | h
        · exact ho s h
        · simp only [List.mem_singleton] at h; subst h; exact .inr (.inl rfl)) hp]
      have := adoS_congr (a := puts ++ [(2, c, v, x)]) (b := (2, c, v, x) :: puts) (puts_drop (2, c, v, x) rfl puts hp) out r a b
      simp only [List.append_assoc, List.cons_append, List.nil_append] at this ⊢
      exact this.symm
    · simp only at h1; subst h1
      have e2 : tstep (out, puts) (3, c, v, x) = (out, puts ++ [(3, c, v, x)]) := by unfold tstep; simp
      rw [e2, tidy_from r _ _ hr ho (fun s h => by
        rcases List.mem_append.1 h with h | h
        · exact hp s h
        · simp only [List.mem_singleton] at h; subst h; rfl)]
      simp
    · simp only at h1 h2; subst h1
      have e2 : tstep (out, puts) (4, c, v, x) = (out ++ puts ++ [(4, c, v, x)], []) := by unfold tstep; simp [h2]
      rw [e2, tidy_from r _ _ hr (fun s h => by
        rcases List.mem_append.1 h with h | h
        · exact hop s h
        · simp only [List.mem_singleton] at h; subst h; exact .inr (.inr (.inr ⟨rfl, h2⟩))) (fun s h => by cases h)]
      simp
theorem tidy_does (l : List St) (h : ∀ s ∈ l, tgood s) (a b : List V) : adoS (tidy l) a b = adoS l a b := by
  have := tidy_from l [] [] h (fun s h => by cases h) (fun s h => by cases h) a b
  simpa [tidy] using this

end Go.Proofs.YtkldcjlkeblggaaDoor.Val

/- Plain facts: the other way of a right edit is right. -/
namespace Go.Proofs.YtkldcjlkeblggaaDoor.Val
set_option linter.unusedVariables false

def lastQ (last : Int) : List St → Int
  | [] => last
  | s :: r => lastQ s.1 r
theorem lastQ_append (a : Int) : ∀ (l m : List St), lastQ a (l ++ m) = lastQ (lastQ a l) m
  | [], m => rfl
  | s :: r, m => by rw [List.cons_append, lastQ, lastQ]; exact lastQ_append s.1 r m
def sRight (s : St) : Prop := stepRight s.1 s.2.1 s.2.2.1 s.2.2.2 = true
def okC (last : Int) : List St → Prop
  | [] => True
  | s :: r => sRight s ∧ ¬ (last = 1 ∧ s.1 = 1) ∧ ¬ (last = 3 ∧ s.1 = 2) ∧ okC s.1 r
theorem okC_append (a : Int) : ∀ (l m : List St), okC a (l ++ m) ↔ okC a l ∧ okC (lastQ a l) m
  | [], m => by simp [okC, lastQ]
  | s :: r, m => by rw [List.cons_append, okC, okC, lastQ, okC_append s.1 r m]; simp only [and_assoc]
theorem esteps_iff : ∀ (l : List St) (last : Int) (ch : Bool), esteps last ch l = true ↔ okC last l ∧ (ch = true ∨ ∃ s ∈ l, s.1 ≠ 1)
  | [], last, ch => by rw [esteps, okC]; simp
  | (k, c, v, e) :: r, last, ch => by
    rw [esteps_cons, okC]
    simp only [Bool.and_eq_true, Bool.not_eq_true', decide_eq_false_iff_not]
    rw [esteps_iff r k _]
    unfold sRight
    simp only [Bool.or_eq_true, decide_eq_true_eq]
    constructor
    · rintro ⟨⟨⟨h1, h2⟩, h3⟩, h4, h5⟩
      refine ⟨⟨h1, h2, h3, h4⟩, ?_⟩
      rcases h5 with (h5 | h5) | ⟨s, hs, h5⟩
      · exact .inl h5
      · exact .inr ⟨_, List.mem_cons_self .., h5⟩
      · exact .inr ⟨s, List.mem_cons_of_mem _ hs, h5⟩
    · rintro ⟨⟨h1, h2, h3, h4⟩, h5⟩
      refine ⟨⟨⟨h1, h2⟩, h3⟩, h4, ?_⟩
      rcases h5 with h5 | ⟨s, hs, h5⟩
      · exact .inl (.inl h5)
      · rcases List.mem_cons.1 hs with rfl | hs
        · exact .inl (.inr h5)
        · exact .inr ⟨s, hs, h5⟩
theorem okC_mem : ∀ {l : List St} {a : Int}, okC a l → ∀ s ∈ l, sRight s
  | s :: r, a, h, q, hq => by
    rw [okC] at h
    rcases List.mem_cons.1 hq with rfl | hq
    · exact h.1
    · exact okC_mem h.2.2.2 q hq
theorem okC_puts : ∀ {l : List St} {a : Int} (b : Int), (∀ s ∈ l, s.1 = 3) → okC a l → okC b l
  | [], _, _, _, _ => trivial
  | s :: r, a, b, h3, h => by
    rw [okC] at h ⊢
    have := h3 s (by simp)
    exact ⟨h.1, by omega, by omega, h.2.2.2⟩
theorem lastQ_puts : ∀ {l : List St} {a : Int}, (∀ s ∈ l, s.1 = 3) → lastQ a l = 1 → l = [] ∧ a = 1
  | [], a, _, h => ⟨rfl, h⟩
  | s :: r, a, h3, h => by
    rw [lastQ] at h
    have := lastQ_puts (l := r) (fun q hq => h3 q (by simp [hq])) h
    have := h3 s (by simp)
    omega
theorem lastQ_get (l : List St) (h : l ≠ []) (a : Int) : ∃ s, l.getLast? = some s ∧ s.1 = lastQ a l := by
  induction l generalizing a with
  | nil => exact absurd rfl h
  | cons s r ih =>
    cases r with
    | nil => exact ⟨s, rfl, rfl⟩
    | cons q r =>
      obtain ⟨z, h1, h2⟩ := ih (by simp) s.1
      exact ⟨z, by rw [List.getLast?_cons_cons]; exact h1, by rw [lastQ]; exact h2⟩
theorem addKeep_snoc {out : List St} (h : lastQ 0 out ≠ 1) {c : Int} (hc : 1 ≤ c) : addKeep out c = out ++ [(1, c, v0, .mk 0 v0 v0 [] false ByteArray.empty ByteArray.empty [] [])] := by
  unfold addKeep
  rw [if_neg (by omega)]
  have : lastKeep out ≠ true := by
    unfold lastKeep
    cases hn : out with
    | nil => simp
    | cons s r =>
      obtain ⟨z, h1, h2⟩ := lastQ_get out (by rw [hn]; simp) 0
      rw [← hn, h1]
      show decide (z.1 = 1) ≠ true
      rw [h2]
      simpa using h
  rw [if_neg this]
theorem keep_right {c : Int} (h1 : 1 ≤ c) (h2 : c ≤ 1048576) : sRight (1, c, v0, .mk 0 v0 v0 [] false ByteArray.empty ByteArray.empty [] []) := by
  unfold sRight stepRight
  simp only [if_true]
  rw [noneV_v0]
  simp [h1, h2, E.kind, E.bare, bareE, noneV_v0]
theorem sRight_cases {s : St} (h : sRight s) : (s.1 = 1 ∧ 1 ≤ s.2.1 ∧ s.2.1 ≤ 1048576) ∨ s.1 = 2 ∨ s.1 = 3 ∨ (s.1 = 4 ∧ s.2.2.2.kind ≠ 0) := by
  unfold sRight stepRight at h
  split at h
  · simp only [Bool.and_eq_true, decide_eq_true_eq] at h; exact .inl ⟨‹_›, h.1⟩
  · split at h
    · rename_i h2; rcases h2 with h2 | h2
      · exact .inr (.inl h2)
      · exact .inr (.inr (.inl h2))
    · split at h
      · simp only [Bool.and_eq_true, decide_eq_true_eq, esome] at h; exact .inr (.inr (.inr ⟨‹_›, h.2.2.1⟩))
      · cases h
/-- no two keeps side by side -/
def noKK (last : Int) : List St → Prop
  | [] => True
  | s :: r => sRight s ∧ ¬ (last = 1 ∧ s.1 = 1) ∧ noKK s.1 r
theorem tidy_okC : ∀ (l : List St) (pk : Int) (out puts : List St), noKK pk l → okC 0 (out ++ puts) → (∀ s ∈ puts, s.1 = 3) → lastQ 0 out ≠ 3 → (lastQ 0 (out ++ puts) = 1 → pk = 1) →
    okC 0 ((tidyFrom (out, puts) l).1 ++ (tidyFrom (out, puts) l).2)
  | [], pk, out, puts, _, h, _, _, _ => h
  | s :: r, pk, out, puts, hl, ho, hp, h3, h4 => by
    rw [noKK] at hl
    obtain ⟨hs, hkk, hl⟩ := hl
    have e : tidyFrom (out, puts) (s :: r) = tidyFrom (tstep (out, puts) s) r := rfl
    rw [e]
    obtain ⟨k, c, v, x⟩ := s
    rcases sRight_cases hs with ⟨h1, h2, h5⟩ | h1 | h1 | ⟨h1, h2⟩
    · simp only at h1 h2 h5 hkk hl; subst h1
      have e2 : tstep (out, puts) (1, c, v, x) = (addKeep (out ++ puts) c, []) := by unfold tstep; exact if_pos ⟨rfl, h2⟩
      have hlk : lastQ 0 (out ++ puts) ≠ 1 := fun h => hkk ⟨h4 h, rfl⟩
      rw [e2, addKeep_snoc hlk h2]
      refine tidy_okC r 1 _ _ hl ?_ (fun s h => by cases h) ?_ (fun _ => rfl)
      · rw [List.append_nil, okC_append]
        exact ⟨ho, by rw [okC]; exact ⟨keep_right h2 h5, fun h => hlk h.1, fun h => by have := h.2; omega, trivial⟩⟩
      · rw [lastQ_append]; show (1 : Int) ≠ 3; decide
    · simp only at h1 hl; subst h1
      have e2 : tstep (out, puts) (2, c, v, x) = (out ++ [(2, c, v, x)], puts) := by unfold tstep; simp
      rw [e2]
      rw [okC_append] at ho
      refine tidy_okC r 2 _ _ hl ?_ hp ?_ ?_
      · rw [okC_append, okC_append]
        refine ⟨⟨ho.1, by rw [okC]; exact ⟨hs, fun h => by have := h.2; simp at this, fun h => h3 h.1, trivial⟩⟩, okC_puts _ hp ho.2⟩
      · rw [lastQ_append]; show (2 : Int) ≠ 3; decide
      · rw [lastQ_append, lastQ_append]
        intro h
        have := (lastQ_puts hp h).2
        have : (2 : Int) = 1 := this
        omega
    · simp only at h1 hl; subst h1
      have e2 : tstep (out, puts) (3, c, v, x) = (out, puts ++ [(3, c, v, x)]) := by unfold tstep; simp
      rw [e2]
      refine tidy_okC r 3 _ _ hl ?_ (fun s h => by
        rcases List.mem_append.1 h with h | h
        · exact hp s h
        · simp only [List.mem_singleton] at h; subst h; rfl) h3 ?_
      · rw [← List.append_assoc, okC_append]
        exact ⟨ho, by rw [okC]; exact ⟨hs, fun h => by have := h.2; simp at this, fun h => by have := h.2; simp at this, trivial⟩⟩
      · rw [← List.append_assoc, lastQ_append]; intro h; have : (3 : Int) = 1 := h; omega
    · simp only at h1 h2 hl; subst h1
      have e2 : tstep (out, puts) (4, c, v, x) = (out ++ puts ++ [(4, c, v, x)], []) := by unfold tstep; simp [h2]
      rw [e2]
      refine tidy_okC r 4 _ _ hl ?_ (fun s h => by cases h) ?_ ?_
      · rw [List.append_nil, okC_append]
        exact ⟨ho, by rw [okC]; exact ⟨hs, fun h => by have := h.2; simp at this, fun h => by have := h.2; simp at this, trivial⟩⟩
      · rw [lastQ_append]; show (4 : Int) ≠ 3; decide
      · rw [List.append_nil, lastQ_append]; intro h; have : (4 : Int) = 1 := h; omega
theorem addKeep_mem {out : List St} {s : St} (h : s ∈ out) (hs : s.1 ≠ 1) (c : Int) : s ∈ addKeep out c := by
  unfold addKeep
  split
  · exact h
  · split
    · rename_i hk
      cases hl : out.getLast? with
      | none => unfold lastKeep at hk; rw [hl] at hk; cases hk
      | some q =>
        have h1 : q.1 = 1 := by unfold lastKeep at hk; rw [hl] at hk; simpa using hk
        rw [last_split hl] at h
        rcases List.mem_append.1 h with h | h
        · exact List.mem_append_left _ h
        · simp only [List.mem_singleton] at h; subst h; exact absurd h1 hs
    · exact List.mem_append_left _ h
theorem tidy_mem {s : St} (hs : s.1 ≠ 1) : ∀ (l out puts : List St), (∀ q ∈ l, sRight q) → (s ∈ out ∨ s ∈ puts ∨ s ∈ l) → s ∈ (tidyFrom (out, puts) l).1 ++ (tidyFrom (out, puts) l).2
  | [], out, puts, _, h => by
    rcases h with h | h | h
    · exact List.mem_append_left _ h
    · exact List.mem_append_right _ h
    · cases h
  | q :: r, out, puts, hl, h => by
    have e : tidyFrom (out, puts) (q :: r) = tidyFrom (tstep (out, puts) q) r := rfl
    rw [e]
    have hr : ∀ q ∈ r, sRight q := fun q h => hl q (by simp [h])
    obtain ⟨k, c, v, x⟩ := q
    rcases sRight_cases (hl (k, c, v, x) (by simp)) with ⟨h1, h2, h5⟩ | h1 | h1 | ⟨h1, h2⟩
    · simp only at h1 h2 h5; subst h1
      have e2 : tstep (out, puts) (1, c, v, x) = (addKeep (out ++ puts) c, []) := by unfold tstep; exact if_pos ⟨rfl, h2⟩
      rw [e2]
      refine tidy_mem hs r _ _ hr ?_
      rcases h with h | h | h
      · exact .inl (addKeep_mem (List.mem_append_left _ h) hs c)
      · exact .inl (addKeep_mem (List.mem_append_right _ h) hs c)
      · rcases List.mem_cons.1 h with rfl | h
        · exact absurd rfl hs
        · exact .inr (.inr h)
    · simp only at h1; subst h1
      have e2 : tstep (out, puts) (2, c, v, x) = (out ++ [(2, c, v, x)], puts) := by unfold tstep; simp
      rw [e2]
      refine tidy_mem hs r _ _ hr ?_
      rcases h with h | h | h
      · exact .inl (List.mem_append_left _ h)
      · exact .inr (.inl h)
      · rcases List.mem_cons.1 h with rfl | h
        · exact .inl (by simp)
        · exact .inr (.inr h)
    · simp only at h1; subst h1
      have e2 : tstep (out, puts) (3, c, v, x) = (out, puts ++ [(3, c, v, x)]) := by unfold tstep; simp
      rw [e2]
      refine tidy_mem hs r _ _ hr ?_
      rcases h with h | h | h
      · exact .inl h
      · exact .inr (.inl (List.mem_append_left _ h))
      · rcases List.mem_cons.1 h with rfl | h
        · exact .inr (.inl (by simp))
        · exact .inr (.inr h)
    · simp only at h1 h2; subst h1
      have e2 : tstep (out, puts) (4, c, v, x) = (out ++ puts ++ [(4, c, v, x)], []) := by unfold tstep; simp [h2]
      rw [e2]
      refine tidy_mem hs r _ _ hr ?_
      rcases h with h | h | h
      · exact .inl (by simp [h])
      · exact .inl (by simp [h])
      · rcases List.mem_cons.1 h with rfl | h
        · exact .inl (by simp)
        · exact .inr (.inr h)

def flipK (k : Int) : Int := if k = 2 then 3 else if k = 3 then 2 else k
theorem invS_cons (s : St) (r : List St) : ∃ x, invS (s :: r) = (flipK s.1, s.2.1, s.2.2.1, x) :: invS r ∧ x = if s.1 = 4 then inv s.2.2.2 else s.2.2.2 := by
  obtain ⟨k, c, v, e⟩ := s
  rw [invS]
  unfold flipK
  by_cases h2 : k = 2
  · subst h2; exact ⟨e, by simp, by simp⟩
  · by_cases h3 : k = 3
    · subst h3; exact ⟨e, by simp, by simp⟩
    · by_cases h4 : k = 4
      · subst h4; exact ⟨inv e, by simp, by simp⟩
      · exact ⟨e, by simp [h2, h3, h4], by simp [h4]⟩
theorem cmp_ne {a b : V} (ha : right a = true) (hb : right b = true) (h : cmp a b ≠ 0) : cmp b a ≠ 0 := fun h2 => h (by rw [cmp_eq b a hb ha h2]; exact cmp_refl a)

mutual
/-- the other way of a right edit is right -/
theorem inv_right : ∀ (e : E), eright e = true → eright (inv e) = true
  | .mk k o n f r ro rn s ks, h => by
    rw [eright, Bool.and_eq_true] at h
    obtain ⟨hb, h⟩ := h
    rw [inv]
    by_cases h1 : k = 1
    · subst h1
      simp only [show ¬ ((1 : Int) = 0) by decide, if_true, if_false, Bool.and_eq_true, Bool.not_eq_true', decide_eq_false_iff_not] at h
      rw [if_pos rfl, eright]
      simp only [show ¬ ((1 : Int) = 0) by decide, if_true, if_false, Bool.and_eq_true, Bool.not_eq_true', decide_eq_false_iff_not]
      refine ⟨?_, h.2.1, h.1, cmp_ne h.1 h.2.1 h.2.2⟩
      simpa [bareE] using hb
    · rw [if_neg h1]
      by_cases h2 : k = 2
      · subst h2
        simp only [show ¬ ((2 : Int) = 0) by decide, show ¬ ((2 : Int) = 1) by decide, if_true, if_false, Bool.and_eq_true, decide_eq_true_eq, Bool.or_eq_true] at h
        rw [if_pos rfl, eright]
        simp only [show ¬ ((2 : Int) = 0) by decide, show ¬ ((2 : Int) = 1) by decide, if_true, if_false, Bool.and_eq_true, decide_eq_true_eq, Bool.or_eq_true]
        obtain ⟨hf, hr, hro, hfs⟩ := h
        refine ⟨by simpa [bareE] using hb, invF_right f 0 hf, ?_, ?_, ?_⟩
        · rw [hr]; exact decide_eq_decide.2 ⟨fun h e => h e.symm, fun h e => h e.symm⟩
        · rcases hro with h | h
          · exact .inl h
          · cases hrr : r with
            | true => exact .inl rfl
            | false =>
              right
              rw [hrr] at hr
              have : ro = rn := by simpa using hr.symm
              rw [← this]; exact h
        · rcases hfs with h | h
          · exact .inl h
          · right
            cases f with
            | nil => exact absurd rfl h
            | cons q r => obtain ⟨a, b⟩ := q; rw [invF]; simp
      · rw [if_neg h2]
        by_cases h3 : k = 3
        · subst h3
          simp only [show ¬ ((3 : Int) = 0) by decide, show ¬ ((3 : Int) = 1) by decide, show ¬ ((3 : Int) = 2) by decide, if_true, if_false] at h
          rw [if_pos rfl, eright, Bool.and_eq_true]
          simp only [show ¬ ((3 : Int) = 0) by decide, show ¬ ((3 : Int) = 1) by decide, show ¬ ((3 : Int) = 2) by decide, if_true, if_false]
          refine ⟨by simpa [bareE] using hb, ?_⟩
          rw [esteps_iff] at h ⊢
          obtain ⟨hc, hch⟩ := h
          have hn := invS_right s 0 0 hc (fun h => by omega)
          refine ⟨?_, .inr ?_⟩
          · have := tidy_okC (invS s) 0 [] [] hn trivial (fun s h => by cases h) (by show (0 : Int) ≠ 3; decide) (fun h => by have : (0 : Int) = 1 := h; omega)
            exact this
          · rcases hch with hch | ⟨q, hq, hq1⟩
            · cases hch
            · obtain ⟨z, hz, hz1⟩ := invS_mem s q hq hq1
              exact ⟨z, tidy_mem hz1 (invS s) [] [] (noKK_mem hn) (.inr (.inr hz)), hz1⟩
        · rw [if_neg h3]
          by_cases h4 : k = 4
          · subst h4
            simp only [show ¬ ((4 : Int) = 0) by decide, show ¬ ((4 : Int) = 1) by decide, show ¬ ((4 : Int) = 2) by decide, show ¬ ((4 : Int) = 3) by decide, if_true, if_false, Bool.and_eq_true, decide_eq_true_eq] at h
            rw [if_pos rfl, eright]
            simp only [show ¬ ((4 : Int) = 0) by decide, show ¬ ((4 : Int) = 1) by decide, show ¬ ((4 : Int) = 2) by decide, show ¬ ((4 : Int) = 3) by decide, if_true, if_false, Bool.and_eq_true, decide_eq_true_eq]
            refine ⟨by simpa [bareE] using hb, ?_, invK_right ks none h.2⟩
            cases ks with
            | nil => simp at h
            | cons q r => obtain ⟨a, b⟩ := q; rw [invK]; simp
          · rw [if_neg h4, eright, Bool.and_eq_true]
            exact ⟨hb, h⟩
theorem invF_right : ∀ (f : List (Int × E)) (last : Int), efields last f = true → efields last (invF f) = true
  | [], last, h => by rw [invF]; exact h
  | (n, e) :: r, last, h => by
    rw [efields] at h
    rw [invF, efields]
    simp only [Bool.and_eq_true, decide_eq_true_eq] at h ⊢
    exact ⟨⟨h.1.1, by rw [inv_kind]; exact h.1.2.1, inv_right e h.1.2.2⟩, invF_right r n h.2⟩
theorem invS_right : ∀ (s : List St) (a b : Int), okC a s → (b = 1 → a = 1) → noKK b (invS s)
  | [], a, b, _, _ => by rw [invS]; trivial
  | (k, c, v, e) :: r, a, b, h, hab => by
    rw [okC] at h
    obtain ⟨h1, h2, _, h3⟩ := h
    unfold sRight stepRight at h1
    simp only at h1 h2 h3
    by_cases e1 : k = 1
    · subst e1
      simp only [if_true] at h1
      rw [invS]
      simp only [show ¬ ((1 : Int) = 2) by decide, show ¬ ((1 : Int) = 3) by decide, show ¬ ((1 : Int) = 4) by decide, if_false]
      rw [noKK]
      exact ⟨by unfold sRight stepRight; simpa using h1, fun h => h2 ⟨hab h.1, rfl⟩, invS_right r 1 1 h3 id⟩
    · rw [if_neg e1] at h1
      by_cases e2 : k = 2
      · subst e2
        rw [if_pos (.inl rfl)] at h1
        rw [invS]
        simp only [if_true]
        rw [noKK]
        exact ⟨by unfold sRight stepRight; simpa using h1, fun h => by have := h.2; simp at this, invS_right r 2 3 h3 (fun h => by omega)⟩
      · by_cases e3 : k = 3
        · subst e3
          rw [if_pos (.inr rfl)] at h1
          rw [invS]
          simp only [show ¬ ((3 : Int) = 2) by decide, if_true, if_false]
          rw [noKK]
          exact ⟨by unfold sRight stepRight; simpa using h1, fun h => by have := h.2; simp at this, invS_right r 3 2 h3 (fun h => by omega)⟩
        · rw [if_neg (by simp [e2, e3])] at h1
          by_cases e4 : k = 4
          · subst e4
            rw [if_pos rfl] at h1
            simp only [Bool.and_eq_true, decide_eq_true_eq, esome] at h1
            rw [invS]
            simp only [show ¬ ((4 : Int) = 2) by decide, show ¬ ((4 : Int) = 3) by decide, if_true, if_false]
            rw [noKK]
            refine ⟨?_, fun h => by have := h.2; simp at this, invS_right r 4 4 h3 (fun h => by omega)⟩
            unfold sRight stepRight
            simp only [show ¬ ((4 : Int) = 1) by decide, show ¬ ((4 : Int) = 2 ∨ (4 : Int) = 3) by decide, if_true, if_false, Bool.and_eq_true, decide_eq_true_eq, esome]
            exact ⟨h1.1, h1.2.1, by rw [inv_kind]; exact h1.2.2.1, inv_right e h1.2.2.2⟩
          · rw [if_neg e4] at h1; cases h1
theorem invK_right : ∀ (f : List (V × E)) (last : Option V), ekeys last f = true → ekeys last (invK f) = true
  | [], last, h => by rw [invK]; exact h
  | (k, e) :: r, last, h => by
    rw [ekeys.eq_def] at h
    rw [invK, ekeys.eq_def]
    simp only [Bool.and_eq_true, decide_eq_true_eq] at h ⊢
    exact ⟨⟨⟨h.1.1.1, by rw [inv_kind]; exact h.1.1.2.1, inv_right e h.1.1.2.2⟩, h.1.2⟩, invK_right r _ h.2⟩
theorem noKK_mem : ∀ {l : List St} {a : Int}, noKK a l → ∀ s ∈ l, sRight s
  | s :: r, a, h, q, hq => by
    rw [noKK] at h
    rcases List.mem_cons.1 hq with rfl | hq
    · exact h.1
    · exact noKK_mem h.2.2 q hq
theorem invS_mem : ∀ (l : List St) (q : St), q ∈ l → q.1 ≠ 1 → ∃ z ∈ invS l, z.1 ≠ 1
  | s :: r, q, hq, h1 => by
    obtain ⟨x, e, _⟩ := invS_cons s r
    rw [e]
    rcases List.mem_cons.1 hq with rfl | hq
    · refine ⟨_, List.mem_cons_self .., ?_⟩
      show flipK q.1 ≠ 1
      unfold flipK
      split
      · decide
      · split
        · decide
        · exact h1
    · obtain ⟨z, hz, hz1⟩ := invS_mem r q hq h1
      exact ⟨z, List.mem_cons_of_mem _ hz, hz1⟩
end

end Go.Proofs.YtkldcjlkeblggaaDoor.Val

/- Plain facts: an edit's other way is no greater. -/
namespace Go.Proofs.YtkldcjlkeblggaaDoor.Val
set_option linter.unusedVariables false

theorem eszS_append : ∀ (a b : List St), eszS (a ++ b) = eszS a + eszS b
  | [], b => by simp [eszS]
  | (k, c, v, e) :: r, b => by rw [List.cons_append, eszS, eszS, eszS_append r b]; omega
theorem esmS_append : ∀ (a b : List St), esmS (a ++ b) ↔ esmS a ∧ esmS b
  | [], b => by simp [esmS]
  | (k, c, v, e) :: r, b => by rw [List.cons_append, esmS, esmS, esmS_append r b, and_assoc]
theorem esz_e0 : esz (.mk 0 v0 v0 [] false ByteArray.empty ByteArray.empty [] []) = 0 := by rw [esz, vmx_v0]; simp [eszF, eszS, eszK]
theorem esm_e0 : esm (.mk 0 v0 v0 [] false ByteArray.empty ByteArray.empty [] []) := by rw [esm]; exact ⟨⟨by decide, by decide⟩, by rw [esmF]; trivial, by rw [esmS]; trivial, by rw [esmK]; trivial⟩
theorem addKeep_esz (out : List St) (c : Int) : eszS (addKeep out c) ≤ eszS out + 1 := by
  unfold addKeep
  split
  · omega
  · split
    · cases h : out.getLast? with
      | none =>
        have : out = [] := by simpa using h
        subst this; simp
      | some s =>
        obtain ⟨k, d, v, e⟩ := s
        have e0 := last_split h
        conv => rhs; rw [e0]
        rw [eszS_append, eszS_append]
        have e1 : eszS [(k, d + c, v, e)] = eszS [(k, d, v, e)] := by simp only [eszS]
        show eszS out.dropLast + eszS [(k, d + c, v, e)] ≤ _
        omega
    · rw [eszS_append, eszS, eszS, vmx_v0, esz_e0]; omega
theorem addKeep_esm {out : List St} (c : Int) (h : esmS out) : esmS (addKeep out c) := by
  unfold addKeep
  split
  · exact h
  · split
    · cases hl : out.getLast? with
      | none =>
        have : out = [] := by simpa using hl
        subst this; simp [esmS]
      | some s =>
        obtain ⟨k, d, v, e⟩ := s
        have e0 := last_split hl
        rw [e0, esmS_append] at h
        rw [esmS_append]
        refine ⟨h.1, ?_⟩
        have := h.2
        rw [esmS] at this ⊢
        exact this
    · rw [esmS_append]
      refine ⟨h, ?_⟩
      rw [esmS]; exact ⟨esm_e0, by rw [esmS]; trivial⟩
theorem tstep_esz (st : List St × List St) (s : St) : eszS (tstep st s).1 + eszS (tstep st s).2 ≤ eszS st.1 + eszS st.2 + eszS [s] := by
  obtain ⟨out, puts⟩ := st
  obtain ⟨k, c, v, e⟩ := s
  have h1 := addKeep_esz (out ++ puts) c
  have h2 := addKeep_esz (out ++ puts) 1
  rw [eszS_append] at h1 h2
  have h0 : eszS ([] : List St) = 0 := by rw [eszS]
  have hs : 1 ≤ eszS [(k, c, v, e)] := by rw [eszS]; omega
  unfold tstep
  simp only
  split
  · simp only [h0]; omega
  · split
    · simp only [h0]; omega
    · split
      · simp only [eszS_append, h0]; omega
      · split
        · simp only [eszS_append]; omega
        · split
          · simp only [eszS_append]; omega
          · simp only; omega
theorem tstep_esm {st : List St × List St} {s : St} (h1 : esmS st.1) (h2 : esmS st.2) (h3 : esmS [s]) : esmS (tstep st s).1 ∧ esmS (tstep st s).2 := by
  obtain ⟨out, puts⟩ := st
  simp only at h1 h2
  have h0 : esmS ([] : List St) := by rw [esmS]; trivial
  have ha : esmS (out ++ puts) := (esmS_append _ _).2 ⟨h1, h2⟩
  unfold tstep
  simp only
  split
  · exact ⟨addKeep_esm s.2.1 ha, h0⟩
  · split
    · exact ⟨addKeep_esm 1 ha, h0⟩
    · split
      · exact ⟨(esmS_append _ _).2 ⟨ha, h3⟩, h0⟩
      · split
        · exact ⟨(esmS_append _ _).2 ⟨h1, h3⟩, h2⟩
        · split
          · exact ⟨h1, (esmS_append _ _).2 ⟨h2, h3⟩⟩
          · exact ⟨h1, h2⟩
theorem tidyFrom_esz : ∀ (l : List St) (st : List St × List St), eszS (tidyFrom st l).1 + eszS (tidyFrom st l).2 ≤ eszS st.1 + eszS st.2 + eszS l
  | [], st => by simp [tidyFrom]
  | s :: r, st => by
    have h1 := tidyFrom_esz r (tstep st s)
    have h2 := tstep_esz st s
    have e : tidyFrom st (s :: r) = tidyFrom (tstep st s) r := rfl
    rw [e]
    have h3 : eszS (s :: r) = eszS [s] + eszS r := eszS_append [s] r
    omega
theorem tidyFrom_esm : ∀ (l : List St) (st : List St × List St), esmS st.1 → esmS st.2 → esmS l → esmS (tidyFrom st l).1 ∧ esmS (tidyFrom st l).2
  | [], st, h1, h2, _ => ⟨h1, h2⟩
  | s :: r, st, h1, h2, h3 => by
    have h3 := (esmS_append [s] r).1 h3
    have h4 := tstep_esm h1 h2 h3.1
    exact tidyFrom_esm r (tstep st s) h4.1 h4.2 h3.2
theorem tidy_esz (l : List St) : eszS (tidy l) ≤ eszS l := by
  have h := tidyFrom_esz l ([], [])
  have h0 : eszS ([] : List St) = 0 := by rw [eszS]
  unfold tidy
  rw [eszS_append]
  simp only [h0] at h
  omega
theorem tidy_esm {l : List St} (h : esmS l) : esmS (tidy l) := by
  have h0 : esmS ([] : List St) := by rw [esmS]; trivial
  have := tidyFrom_esm l ([], []) h0 h0 h
  unfold tidy
  exact (esmS_append _ _).2 this

mutual
theorem inv_esz : ∀ (e : E), esz (inv e) ≤ esz e
  | .mk k o n f r ro rn s ks => by
    have hF := invF_esz f
    have hS := invS_esz s
    have hK := invK_esz ks
    have hT := tidy_esz (invS s)
    rw [inv]
    split
    · rw [esz, esz]; omega
    · split
      · rw [esz, esz]; omega
      · split
        · rw [esz, esz]; omega
        · split
          · rw [esz, esz]; omega
          · omega
theorem invF_esz : ∀ (l : List (Int × E)), eszF (invF l) ≤ eszF l
  | [] => by rw [invF]; omega
  | (n, e) :: r => by rw [invF, eszF, eszF]; have := inv_esz e; have := invF_esz r; omega
theorem invS_esz : ∀ (l : List St), eszS (invS l) ≤ eszS l
  | [] => by rw [invS]; omega
  | (k, c, v, e) :: r => by
    have h1 := inv_esz e
    have h2 := invS_esz r
    rw [invS]
    have e0 : eszS ((k, c, v, e) :: r) = 1 + vmx v + esz e + eszS r := by rw [eszS]
    split
    · rw [eszS]; omega
    · split
      · rw [eszS]; omega
      · split
        · rw [eszS]; omega
        · rw [eszS]; omega
theorem invK_esz : ∀ (l : List (V × E)), eszK (invK l) ≤ eszK l
  | [] => by rw [invK]; omega
  | (n, e) :: r => by rw [invK, eszK, eszK]; have := inv_esz e; have := invK_esz r; omega
end
mutual
theorem inv_esm : ∀ (e : E), esm e → esm (inv e)
  | .mk k o n f r ro rn s ks, h => by
    rw [esm] at h
    obtain ⟨h1, h2, h3, h4⟩ := h
    rw [inv]
    split
    · rw [esm]; exact ⟨h1, h2, h3, h4⟩
    · split
      · rw [esm]; exact ⟨⟨h1.2, h1.1⟩, invF_esm f h2, h3, h4⟩
      · split
        · rw [esm]; exact ⟨h1, h2, tidy_esm (invS_esm s h3), h4⟩
        · split
          · rw [esm]; exact ⟨h1, h2, h3, invK_esm ks h4⟩
          · rw [esm]; exact ⟨h1, h2, h3, h4⟩
theorem invF_esm : ∀ (l : List (Int × E)), esmF l → esmF (invF l)
  | [], h => by rw [invF]; exact h
  | (n, e) :: r, h => by rw [esmF] at h; rw [invF, esmF]; exact ⟨inv_esm e h.1, invF_esm r h.2⟩
theorem invS_esm : ∀ (l : List St), esmS l → esmS (invS l)
  | [], h => by rw [invS]; exact h
  | (k, c, v, e) :: r, h => by
    rw [esmS] at h
    have h1 := inv_esm e h.1
    have h2 := invS_esm r h.2
    rw [invS]
    split
    · rw [esmS]; exact ⟨h.1, h2⟩
    · split
      · rw [esmS]; exact ⟨h.1, h2⟩
      · split
        · rw [esmS]; exact ⟨h1, h2⟩
        · rw [esmS]; exact ⟨h.1, h2⟩
theorem invK_esm : ∀ (l : List (V × E)), esmK l → esmK (invK l)
  | [], h => by rw [invK]; exact h
  | (n, e) :: r, h => by rw [esmK] at h; rw [invK, esmK]; exact ⟨inv_esm e h.1, invK_esm r h.2⟩
end

end Go.Proofs.YtkldcjlkeblggaaDoor.Val

/- Plain facts: an edit's other way makes the value again (the plain law of ApplyBack). -/
namespace Go.Proofs.YtkldcjlkeblggaaDoor.Val
set_option linter.unusedVariables false

theorem efields_gt : ∀ (f : List (Int × E)) (last : Int), efields last f = true → ∀ e ∈ f, last < e.1
  | [], _, _ => fun e he => by simp at he
  | (n, x) :: r, last, h => by
    rw [efields] at h
    simp only [Bool.and_eq_true, decide_eq_true_eq] at h
    intro e he
    rcases List.mem_cons.1 he with rfl | he
    · exact h.1.1.1
    · have := efields_gt r n h.2 e he; have := h.1.1.1; omega
theorem with_comm {w x y : V} {n m : Int} (hr : right w = true) (hk : w.kind = 3) (hn : KI n) (hm : KI m) (hne : m ≠ n) (hx : right x = true) (hy : right y = true) : withV (withV w n y) m x = withV (withV w m x) n y := by
  have r1 := right_with hr hk hn hy
  have r2 := right_with hr hk hm hx
  have k1 := kind_with (x := y) (n := n) hk
  have k2 := kind_with (x := x) (n := m) hk
  refine msg_ext (right_with r1 k1 hm hx) (right_with r2 k2 hn hy) (kind_with k1) (kind_with k2) (by simp [rest_with]) (fun q hq => ?_)
  by_cases e1 : q = m
  · subst e1
    rw [get_with r1 k1 hm hx, get_with_ne r2 k2 hn hm hne, get_with hr hk hm hx]
  · rw [get_with_ne r1 k1 hm hq e1]
    by_cases e2 : q = n
    · subst e2
      rw [get_with hr hk hn hy, get_with r2 k2 hn hy]
    · rw [get_with_ne hr hk hn hq e2, get_with_ne r2 k2 hn hq e2, get_with_ne hr hk hm hq e1]
theorem with_back {v x : V} {n : Int} (hr : right v = true) (hk : v.kind = 3) (hn : KI n) (hx : right x = true) : withV (withV v n x) n (get v n) = v := by
  have r1 := right_with hr hk hn hx
  have k1 := kind_with (x := x) (n := n) hk
  have hg := right_get hr hk hn
  refine msg_ext (right_with r1 k1 hn hg) hr (kind_with k1) hk (by simp [rest_with]) (fun q hq => ?_)
  by_cases e1 : q = n
  · subst e1
    rw [get_with r1 k1 hn hg]
  · rw [get_with_ne r1 k1 hn hq e1, get_with_ne hr hk hn hq e1]
theorem adoF_get : ∀ (f : List (Int × E)) (v w : V), allF f → right v = true → v.kind = 3 → adoF f v = .ok w → ∀ m, KI m → (∀ e ∈ f, e.1 ≠ m) → get w m = get v m
  | [], v, w, _, _, _, h, m, _, _ => by rw [adoF] at h; cases h; rfl
  | (n, e) :: r, v, w, ha, hv, hk, h, m, hm, hne => by
    rw [adoF] at h
    have h1 := ha (n, e) (by simp)
    cases hE : ado e (get v n) with
    | bad b => rw [hE] at h; cases h
    | ok y =>
      rw [hE] at h
      have hy := ado_right e (get v n) y h1.2 (right_get hv hk h1.1) hE
      have := adoF_get r (withV v n y) w (fun e he => ha e (by simp [he])) (right_with hv hk h1.1 hy) (kind_with hk) h m hm (fun e he => hne e (by simp [he]))
      rw [this, get_with_ne hv hk h1.1 hm (fun e2 => hne (n, e) (by simp) e2.symm)]
theorem adoF_with : ∀ (f : List (Int × E)) (w u : V), allF f → right w = true → w.kind = 3 → adoF f w = .ok u → ∀ n y, KI n → right y = true → (∀ e ∈ f, e.1 ≠ n) → adoF f (withV w n y) = .ok (withV u n y)
  | [], w, u, _, _, _, h, n, y, _, _, _ => by rw [adoF] at h ⊢; cases h; rfl
  | (m, e) :: r, w, u, ha, hw, hk, h, n, y, hn, hy, hne => by
    rw [adoF] at h ⊢
    have h1 := ha (m, e) (by simp)
    have hmn : m ≠ n := hne (m, e) (by simp)
    rw [get_with_ne hw hk hn h1.1 hmn]
    cases hE : ado e (get w m) with
    | bad b => rw [hE] at h; cases h
    | ok x =>
      rw [hE] at h
      simp only at h ⊢
      have hx := ado_right e (get w m) x h1.2 (right_get hw hk h1.1) hE
      rw [with_comm hw hk hn h1.1 hmn hx hy]
      exact adoF_with r (withV w m x) u (fun e he => ha e (by simp [he])) (right_with hw hk h1.1 hx) (kind_with hk) h n y hn hy (fun e he => hne e (by simp [he]))
theorem invF_fst : ∀ (f : List (Int × E)) (e : Int × E), e ∈ invF f → ∃ q ∈ f, q.1 = e.1
  | (n, x) :: r, e, h => by
    rw [invF] at h
    rcases List.mem_cons.1 h with rfl | h
    · exact ⟨_, List.mem_cons_self .., rfl⟩
    · obtain ⟨q, hq, h2⟩ := invF_fst r e h
      exact ⟨q, List.mem_cons_of_mem _ hq, h2⟩

/-- keys of one kind that rise -/
def okK (kd : Int) : List (V × E) → Prop
  | [] => True
  | (k, e) :: r => KP kd k ∧ eright e = true ∧ (∀ q ∈ r, q.1 ≠ k) ∧ okK kd r
theorem ekeys_okK : ∀ (ks : List (V × E)) (p : V), KP p.kind p → ekeys (some p) ks = true → okK p.kind ks ∧ ∀ q ∈ ks, cmp p q.1 < 0
  | [], _, _, _ => ⟨trivial, fun q h => by cases h⟩
  | (k, e) :: r, p, hp, h => by
    rw [ekeys.eq_def] at h
    simp only [Bool.and_eq_true, decide_eq_true_eq] at h
    obtain ⟨⟨⟨⟨h1, h2⟩, h3, h4⟩, h5, h6⟩, h7⟩ := h
    have hk : KP k.kind k := ⟨rfl, h1, h2⟩
    obtain ⟨i1, i2⟩ := ekeys_okK r k hk h7
    have hk' : KP p.kind k := by rw [h5]; exact hk
    refine ⟨⟨hk', h4, fun q hq e => ?_, by rw [h5]; exact i1⟩, fun q hq => ?_⟩
    · have := i2 q hq
      rw [e, cmp_refl] at this; omega
    · rcases List.mem_cons.1 hq with rfl | hq
      · exact h6
      · have hq2 : KP p.kind q.1 := by
          have : ∀ {l : List (V × E)}, okK k.kind l → ∀ q ∈ l, KP k.kind q.1 := fun {l} => by
            induction l with
            | nil => intro _ q h; cases h
            | cons z l ih =>
              obtain ⟨z1, z2⟩ := z
              intro h q hq
              rcases List.mem_cons.1 hq with rfl | hq
              · exact h.1
              · exact ih h.2.2.2 q hq
          rw [h5]; exact this i1 q hq
        exact (ordP p.kind).trans hp hk' hq2 h6 (i2 q hq)
theorem ekeys_some {ks : List (V × E)} (hne : 0 < ks.length) (h : ekeys none ks = true) : ∃ kd, okK kd ks := by
  cases ks with
  | nil => simp at hne
  | cons q r =>
    obtain ⟨k, e⟩ := q
    rw [ekeys.eq_def] at h
    simp only [Bool.and_eq_true, decide_eq_true_eq] at h
    have hk : KP k.kind k := ⟨rfl, h.1.1.1.1, h.1.1.1.2⟩
    obtain ⟨i1, i2⟩ := ekeys_okK r k hk h.2
    exact ⟨k.kind, hk, h.1.1.2.2, fun q hq e => by have := i2 q hq; rw [e, cmp_refl] at this; omega, i1⟩
theorem okK_inv : ∀ {ks : List (V × E)} {kd : Int}, okK kd ks → okK kd (invK ks) ∧ ∀ q ∈ invK ks, ∃ z ∈ ks, z.1 = q.1
  | [], kd, _ => ⟨by rw [invK]; trivial, fun q h => by rw [invK] at h; cases h⟩
  | (k, e) :: r, kd, h => by
    obtain ⟨h1, h2, h3, h4⟩ := h
    obtain ⟨i1, i2⟩ := okK_inv h4
    rw [invK]
    refine ⟨⟨h1, inv_right e h2, fun q hq e => ?_, i1⟩, fun q hq => ?_⟩
    · obtain ⟨z, hz, e2⟩ := i2 q hq
      exact h3 z hz (e2.trans e)
    · rcases List.mem_cons.1 hq with rfl | hq
      · exact ⟨_, List.mem_cons_self .., rfl⟩
      · obtain ⟨z, hz, e2⟩ := i2 q hq
        exact ⟨z, List.mem_cons_of_mem _ hz, e2⟩
theorem no_head {v k : V} {kd : Int} (hv : KeysOf kd v) (hk : KP kd k) : ¬ headKind v k := by
  rintro ⟨e, h1, h2⟩
  have : e ∈ v.pairs := List.mem_of_head? h1
  have := (hv.2.1.1 e this).1
  exact h2 (this.trans hk.1.symm)
theorem find_part {v k : V} {kd : Int} (hr : right v = true) (hv : KeysOf kd v) (hk : KP kd k) : (find v k).kind = 0 ∨ partB (find v k) = true := by
  rw [find_look k hr hv.1]
  cases h : look cmp v.pairs k with
  | none => left; show v0.kind = 0; unfold v0; rfl
  | some y => right; exact hv.2.2 _ (look_mem (ordP kd) hv.2.1 hk h)
theorem part_not {x : V} (h : x.kind = 0 ∨ partB x = true) : ¬ (x.kind ≠ 0 ∧ ¬ (1 ≤ x.kind ∧ x.kind ≤ 3)) := by
  rintro ⟨h1, h2⟩
  rcases h with h | h
  · exact h1 h
  · unfold partB at h
    simp only [Bool.and_eq_true, decide_eq_true_eq] at h
    exact h2 h.1
theorem not_part {y : V} (hy : right y = true) (hk : ¬ (y.kind ≠ 0 ∧ ¬ (1 ≤ y.kind ∧ y.kind ≤ 3))) : y.kind = 0 ∨ partB y = true := by
  by_cases h0 : y.kind = 0
  · exact .inl h0
  · refine .inr (part_of ?_ hy)
    by_cases h3 : 1 ≤ y.kind ∧ y.kind ≤ 3
    · exact h3
    · exact absurd ⟨h0, h3⟩ hk
theorem put_comm {w x y n m : V} {kd : Int} (hr : right w = true) (hw : KeysOf kd w) (hn : KP kd n) (hm : KP kd m) (hne : m ≠ n) (hx : right x = true) (hy : right y = true) (px : x.kind = 0 ∨ partB x = true) (py : y.kind = 0 ∨ partB y = true) :
    putV (putV w n y) m x = putV (putV w m x) n y := by
  have r1 := right_put hw hn py
  have r2 := right_put hw hm px
  have k1 := keys_put hw hn py
  have k2 := keys_put hw hm px
  refine map_ext (right_put k1 hm px) (right_put k2 hn py) (keys_put k1 hm px) (keys_put k2 hn py) (fun q hq => ?_)
  by_cases e1 : q = m
  · subst e1
    rw [find_put k1 hm px hx, find_put_ne r2 k2 hn hm py hne, find_put hw hm px hx]
  · rw [find_put_ne r1 k1 hm hq px e1]
    by_cases e2 : q = n
    · subst e2
      rw [find_put hw hn py hy, find_put k2 hn py hy]
    · rw [find_put_ne hr hw hn hq py e2, find_put_ne r2 k2 hn hq py e2, find_put_ne hr hw hm hq px e1]
theorem put_back {v x n : V} {kd : Int} (hr : right v = true) (hv : KeysOf kd v) (hn : KP kd n) (px : x.kind = 0 ∨ partB x = true) : putV (putV v n x) n (find v n) = v := by
  have r1 := right_put hv hn px
  have k1 := keys_put hv hn px
  have pf := find_part hr hv hn
  have hf : right (find v n) = true := by
    have e : n.kind = kd := hn.1
    subst e
    exact right_find hr hv hn
  refine map_ext (right_put k1 hn pf) hr (keys_put k1 hn pf) hv (fun q hq => ?_)
  by_cases e1 : q = n
  · subst e1
    rw [find_put k1 hn pf hf]
  · rw [find_put_ne r1 k1 hn hq pf e1, find_put_ne hr hv hn hq px e1]
theorem rfind {v k : V} {kd : Int} (hr : right v = true) (hv : KeysOf kd v) (hk : KP kd k) : right (find v k) = true := by
  have e : k.kind = kd := hk.1
  subst e
  exact right_find hr hv hk
/-- one key's edit, where the keys are of one kind -/
theorem adoK_cons {k : V} {e : E} {r : List (V × E)} {v : V} {kd : Int} (hv : KeysOf kd v) (hk : KP kd k) : adoK ((k, e) :: r) v = match ado e (find v k) with
    | .bad b => .bad b
    | .ok x => if x.kind ≠ 0 ∧ ¬ (1 ≤ x.kind ∧ x.kind ≤ 3) then .bad 12 else adoK r (putV v k x) := by
  rw [adoK, if_neg (no_head hv hk)]
  cases ado e (find v k) <;> rfl
theorem adoK_find : ∀ (f : List (V × E)) (v w : V) (kd : Int), okK kd f → right v = true → KeysOf kd v → adoK f v = .ok w → (right w = true ∧ KeysOf kd w) ∧ ∀ m, KP kd m → (∀ e ∈ f, e.1 ≠ m) → find w m = find v m
  | [], v, w, kd, _, hv, hk, h => by rw [adoK] at h; cases h; exact ⟨⟨hv, hk⟩, fun _ _ _ => rfl⟩
  | (n, e) :: r, v, w, kd, ha, hv, hk, h => by
    obtain ⟨h1, h2, h3, h4⟩ := ha
    rw [adoK_cons hk h1] at h
    cases hE : ado e (find v n) with
    | bad b => rw [hE] at h; cases h
    | ok y =>
      rw [hE] at h
      simp only at h
      split at h
      · cases h
      rename_i hq
      have hy := ado_right e (find v n) y h2 (rfind hv hk h1) hE
      have py := not_part hy hq
      have ih := adoK_find r (putV v n y) w kd h4 (right_put hk h1 py) (keys_put hk h1 py) h
      refine ⟨ih.1, fun m hm hne => ?_⟩
      rw [ih.2 m hm (fun e he => hne e (by simp [he])), find_put_ne hv hk h1 hm py (fun e2 => hne (n, e) (by simp) e2.symm)]
theorem adoK_put : ∀ (f : List (V × E)) (w u : V) (kd : Int), okK kd f → right w = true → KeysOf kd w → adoK f w = .ok u → ∀ n y, KP kd n → right y = true → (y.kind = 0 ∨ partB y = true) → (∀ e ∈ f, e.1 ≠ n) → adoK f (putV w n y) = .ok (putV u n y)
  | [], w, u, kd, _, _, _, h, n, y, _, _, _, _ => by rw [adoK] at h ⊢; cases h; rfl
  | (m, e) :: r, w, u, kd, ha, hw, hk, h, n, y, hn, hy, py, hne => by
    obtain ⟨h1, h2, h3, h4⟩ := ha
    rw [adoK_cons hk h1] at h
    rw [adoK_cons (keys_put hk hn py) h1]
    have hmn : m ≠ n := hne (m, e) (by simp)
    rw [find_put_ne hw hk hn h1 py hmn]
    cases hE : ado e (find w m) with
    | bad b => rw [hE] at h; cases h
    | ok x =>
      rw [hE] at h
      simp only at h ⊢
      split at h
      · cases h
      rename_i hq
      rw [if_neg hq]
      have hx := ado_right e (find w m) x h2 (rfind hw hk h1) hE
      have px := not_part hx hq
      rw [put_comm hw hk hn h1 hmn hx hy px py]
      exact adoK_put r (putV w m x) u kd h4 (right_put hk h1 px) (keys_put hk h1 px) h n y hn hy py (fun e he => hne e (by simp [he]))

theorem noKK_good {l : List St} {a : Int} (h : noKK a l) : ∀ s ∈ l, tgood s := fun s hs => by
  rcases sRight_cases (noKK_mem h s hs) with ⟨h1, h2, _⟩ | h1 | h1 | ⟨h1, h2⟩
  · exact .inl ⟨h1, h2⟩
  · exact .inr (.inl h1)
  · exact .inr (.inr (.inl h1))
  · exact .inr (.inr (.inr ⟨h1, h2⟩))

mutual
/-- the other way makes the value again -/
theorem inv_does : ∀ (e : E) (v x : V), eright e = true → right v = true → ado e v = .ok x → ado (inv e) x = .ok v
  | .mk k o n f r ro rn s ks, v, x, he, hv, h => by
    have he0 := he
    rw [eright, Bool.and_eq_true] at he0
    obtain ⟨hbare, he0⟩ := he0
    obtain ⟨_, hp⟩ := eright_parts he
    rw [ado] at h
    rw [inv]
    rcases hp with rfl | ⟨rfl, h1, h2, h3⟩ | ⟨rfl, h1⟩ | ⟨rfl, h1⟩ | ⟨rfl, h1⟩
    · simp at h; subst h
      simp only [show ¬ ((0 : Int) = 1) by decide, show ¬ ((0 : Int) = 2) by decide, show ¬ ((0 : Int) = 3) by decide, show ¬ ((0 : Int) = 4) by decide, if_false]
      rw [ado]; simp
    · simp at h
      split at h
      case isFalse => cases h
      rename_i q
      cases h
      rw [if_pos rfl, ado, if_pos rfl, if_pos (cmp_refl _), cmp_eq o v h1 hv q]
    · simp at h
      split at h
      case isFalse => cases h
      rename_i kv
      simp only [show ¬ ((2 : Int) = 0) by decide, show ¬ ((2 : Int) = 1) by decide, if_true, if_false, Bool.and_eq_true] at he0
      cases hF : adoF f v with
      | bad b => rw [hF] at h; cases h
      | ok a =>
      rw [hF] at h
      obtain ⟨ra, ka⟩ := adoF_right f v a h1 hv kv hF
      have hrest : a.rest = v.rest := adoF_rest f v a hF
      simp only at h
      simp only [show ¬ ((2 : Int) = 1) by decide, if_true, if_false]
      rw [ado]
      simp only [show ¬ ((2 : Int) = 1) by decide, if_true, if_false]
      cases hr : r with
      | false =>
        rw [hr] at h
        simp only [Bool.false_eq_true, if_false] at h ⊢
        cases h
        rw [if_pos ka, invF_does f 0 v x he0.1 (by omega) hv kv hF]
      | true =>
        rw [hr] at h
        simp only [if_true] at h ⊢
        split at h
        case isFalse => cases h
        rename_i q
        cases h
        have kx : (setRest a rn).kind = 3 := ka
        rw [if_pos kx, adoF_setRest (invF f) a v rn (invF_does f 0 v a he0.1 (by omega) hv kv hF)]
        simp only
        have e1 : (setRest v rn).rest = rn := rfl
        rw [if_pos e1]
        have e2 : setRest (setRest v rn) ro = v := by
          rw [← q, hrest]
          cases v; rfl
        rw [e2]
    · simp at h
      split at h
      case isFalse => cases h
      rename_i kv
      simp only [show ¬ ((3 : Int) = 0) by decide, show ¬ ((3 : Int) = 1) by decide, show ¬ ((3 : Int) = 2) by decide, if_true, if_false] at he0
      cases hS : adoS s v.list [] with
      | bad b => rw [hS] at h; cases h
      | ok p =>
      obtain ⟨l1, o1⟩ := p
      rw [hS] at h
      simp only at h
      split at h
      case isTrue => cases h
      rename_i e1
      cases h
      have e5 : l1 = [] := List.eq_nil_of_length_eq_zero (by omega)
      subst e5
      have hl := right_list hv kv
      obtain ⟨c, q, hc, hq, hb⟩ := invS_does s v.list [] [] o1 h1 (rightL_mem.1 hl.2) hS
      simp only [List.append_nil, List.nil_append] at hc hq
      subst hq
      have hb := hb [] []
      simp only [List.append_nil, List.nil_append] at hb
      simp only [show ¬ ((3 : Int) = 1) by decide, show ¬ ((3 : Int) = 2) by decide, if_true, if_false]
      rw [ado]
      simp only [show ¬ ((3 : Int) = 1) by decide, show ¬ ((3 : Int) = 2) by decide, if_true, if_false]
      have hkk : (mkL o1).kind = 4 ∨ (mkL o1).kind = 0 := by unfold mkL; split <;> simp [V.kind, v0]
      rw [if_pos hkk, mkL_list]
      rw [esteps_iff] at he0
      rw [tidy_does (invS s) (noKK_good (invS_right s 0 0 he0.1 (fun h => by omega))), hb]
      simp only [List.length_nil, Nat.lt_irrefl, if_false]
      rw [← hc, ← hl.1]
    · simp at h
      split at h
      case isFalse => cases h
      rename_i kv
      simp only [show ¬ ((4 : Int) = 0) by decide, show ¬ ((4 : Int) = 1) by decide, show ¬ ((4 : Int) = 2) by decide, show ¬ ((4 : Int) = 3) by decide, if_true, if_false, Bool.and_eq_true, decide_eq_true_eq] at he0
      obtain ⟨kd, hkd⟩ := ekeys_some he0.1 he0.2
      have hO : KeysOf kd v := by
        cases hks : ks with
        | nil => rw [hks] at he0; simp at he0
        | cons q r =>
          obtain ⟨k, e⟩ := q
          rw [hks] at h hkd
          rw [adoK] at h
          split at h
          · cases h
          rename_i hh
          have := kinds_of hv kv hh
          rw [hkd.1.1] at this
          exact this
      have hx := (adoK_find ks v x kd hkd hv hO h).1
      simp only [show ¬ ((4 : Int) = 1) by decide, show ¬ ((4 : Int) = 2) by decide, show ¬ ((4 : Int) = 3) by decide, if_true, if_false]
      rw [ado]
      simp only [show ¬ ((4 : Int) = 1) by decide, show ¬ ((4 : Int) = 2) by decide, show ¬ ((4 : Int) = 3) by decide, if_true, if_false]
      rw [if_pos hx.2.1]
      exact invK_does ks v x kd hkd hv hO h
theorem adoF_rest : ∀ (f : List (Int × E)) (v w : V), adoF f v = .ok w → w.rest = v.rest
  | [], v, w, h => by rw [adoF] at h; cases h; rfl
  | (n, e) :: r, v, w, h => by
    rw [adoF] at h
    cases hE : ado e (get v n) with
    | bad b => rw [hE] at h; cases h
    | ok y => rw [hE] at h; rw [adoF_rest r _ w h, rest_with]
theorem adoF_setRest : ∀ (f : List (Int × E)) (w u : V) (t : ByteArray), adoF f w = .ok u → adoF f (setRest w t) = .ok (setRest u t)
  | [], w, u, t, h => by rw [adoF] at h ⊢; cases h; rfl
  | (n, e) :: r, w, u, t, h => by
    rw [adoF] at h ⊢
    have e1 : get (setRest w t) n = get w n := by cases w; rfl
    rw [e1]
    cases hE : ado e (get w n) with
    | bad b => rw [hE] at h; cases h
    | ok y =>
      rw [hE] at h
      simp only at h ⊢
      have e2 : withV (setRest w t) n y = setRest (withV w n y) t := by
        by_cases hc : w.kind = 3 ∧ 1 ≤ n ∧ n ≤ 536870911
        · have h1 : withV w n y = .mk w.kind w.num w.text (spl w.fields (posF w.fields n) (one (hitF w.fields n)) (decide (y.kind ≠ 0)) (n, y)) w.rest w.list w.pairs := if_pos hc
          have h2 : withV (setRest w t) n y = .mk w.kind w.num w.text (spl w.fields (posF w.fields n) (one (hitF w.fields n)) (decide (y.kind ≠ 0)) (n, y)) t w.list w.pairs := if_pos (c := (setRest w t).kind = 3 ∧ 1 ≤ n ∧ n ≤ 536870911) hc
          rw [h1, h2]; rfl
        · have h1 : withV w n y = w := if_neg hc
          have h2 : withV (setRest w t) n y = setRest w t := if_neg (c := (setRest w t).kind = 3 ∧ 1 ≤ n ∧ n ≤ 536870911) hc
          rw [h1, h2]
      rw [e2]
      exact adoF_setRest r _ u t h
theorem invF_does : ∀ (f : List (Int × E)) (last : Int) (v w : V), efields last f = true → 0 ≤ last → right v = true → v.kind = 3 → adoF f v = .ok w → adoF (invF f) w = .ok v
  | [], last, v, w, _, _, _, _, h => by rw [adoF] at h; cases h; rw [invF, adoF]
  | (n, e) :: r, last, v, w, hf, h0, hv, hk, h => by
    have hall := efields_all ((n, e) :: r) last h0 hf
    have hgt := efields_gt ((n, e) :: r) last hf
    have hf2 := hf
    rw [efields] at hf2
    simp only [Bool.and_eq_true, decide_eq_true_eq] at hf2
    have hn0 : 0 ≤ n := by have := hf2.1.1.1; omega
    have hgt2 := efields_gt r n hf2.2
    have h1 := hall (n, e) (by simp)
    rw [adoF] at h
    cases hE : ado e (get v n) with
    | bad b => rw [hE] at h; cases h
    | ok y =>
      rw [hE] at h
      simp only at h
      have hallr : allF r := fun e he => hall e (by simp [he])
      have hy := ado_right e (get v n) y h1.2 (right_get hv hk h1.1) hE
      have r1 := right_with hv hk h1.1 hy
      have k1 := kind_with (x := y) (n := n) hk
      have hw := adoF_right r (withV v n y) w hallr r1 k1 h
      have hg : get w n = y := by
        rw [adoF_get r (withV v n y) w hallr r1 k1 h n h1.1 (fun e he => by have := hgt2 e he; omega), get_with hv hk h1.1 hy]
      have ihr := invF_does r n (withV v n y) w hf2.2 hn0 r1 k1 h
      have ihe := inv_does e (get v n) y h1.2 (right_get hv hk h1.1) hE
      rw [invF, adoF, hg, ihe]
      simp only
      have hf3 := invF_right r n hf2.2
      rw [adoF_with (invF r) w (withV v n y) (efields_all (invF r) n hn0 hf3) hw.1 hw.2 ihr n (get v n) h1.1 (right_get hv hk h1.1) (fun e he => by have := efields_gt (invF r) n hf3 e he; omega), with_back hv hk h1.1 hy]
theorem invS_does : ∀ (s : List St) (l o l' o' : List V), allS s → (∀ v ∈ l, partB v = true) → adoS s l o = .ok (l', o') → ∃ c q, l = c ++ l' ∧ o' = o ++ q ∧ ∀ t r, adoS (invS s) (q ++ t) r = .ok (t, r ++ c)
  | [], l, o, l', o', _, _, h => by
    rw [adoS] at h; cases h
    exact ⟨[], [], rfl, by simp, fun t r => by rw [invS, adoS]; simp⟩
  | (k, c, v, e) :: r, l, o, l', o', ha, hl, h => by
    have hr : allS r := fun e he => ha e (by simp [he])
    have h1 : stepB k c v e := ha (k, c, v, e) (by simp)
    rw [adoS.eq_def] at h
    rcases h1 with ⟨rfl, h1, h2⟩ | ⟨rfl, h1⟩ | ⟨rfl, h1⟩ | ⟨rfl, h1⟩
    · simp at h
      split at h
      · cases h
      rename_i hlen
      obtain ⟨c1, q1, e1, e2, hb⟩ := invS_does r _ _ l' o' hr (fun v hv => hl v (List.mem_of_mem_drop hv)) h
      refine ⟨l.take c.toNat ++ c1, l.take c.toNat ++ q1, by rw [List.append_assoc, ← e1, List.take_append_drop], by rw [e2, List.append_assoc], fun t r2 => ?_⟩
      have hlt : (l.take c.toNat).length = c.toNat := by rw [List.length_take]; omega
      rw [invS]
      simp only [show ¬ ((1 : Int) = 2) by decide, show ¬ ((1 : Int) = 3) by decide, show ¬ ((1 : Int) = 4) by decide, if_false]
      rw [adoS.eq_def]
      simp only [if_true]
      rw [if_neg (by simp only [List.length_append, hlt]; omega)]
      rw [List.append_assoc, List.drop_append_of_le_length (by omega), List.take_append_of_le_length (by omega), List.drop_of_length_le (by omega), List.take_of_length_le (l := l.take c.toNat) (by omega), List.nil_append, hb t, List.append_assoc]
    · simp at h
      cases l with
      | nil => cases h
      | cons x l2 =>
        simp only at h
        split at h
        case isFalse => cases h
        rename_i hx
        obtain ⟨c1, q1, e1, e2, hb⟩ := invS_does r l2 o l' o' hr (fun v hv => hl v (by simp [hv])) h
        have e3 := cmp_eq x v (part_right (hl x (by simp))) (part_right h1) hx
        refine ⟨x :: c1, q1, by rw [e1]; rfl, e2, fun t r2 => ?_⟩
        rw [invS]
        simp only [if_true]
        rw [adoS.eq_def]
        simp only [show ¬ ((3 : Int) = 1) by decide, show ¬ ((3 : Int) = 2) by decide, if_true, if_false]
        rw [hb t, e3, List.append_assoc]; rfl
    · simp at h
      obtain ⟨c1, q1, e1, e2, hb⟩ := invS_does r l (o ++ [v]) l' o' hr hl h
      refine ⟨c1, v :: q1, e1, by rw [e2, List.append_assoc]; rfl, fun t r2 => ?_⟩
      rw [invS]
      simp only [show ¬ ((3 : Int) = 2) by decide, if_true, if_false]
      rw [adoS.eq_def]
      simp only [show ¬ ((2 : Int) = 1) by decide, if_true, if_false, List.cons_append]
      rw [if_pos (cmp_refl v), hb t]
    · simp at h
      cases l with
      | nil => cases h
      | cons x l2 =>
        simp only at h
        cases hE : ado e x with
        | bad b => rw [hE] at h; cases h
        | ok y =>
          rw [hE] at h
          simp only at h
          split at h
          case isFalse => cases h
          obtain ⟨c1, q1, e1, e2, hb⟩ := invS_does r l2 (o ++ [y]) l' o' hr (fun v hv => hl v (by simp [hv])) h
          have ihe := inv_does e x y h1 (part_right (hl x (by simp))) hE
          have hxp := hl x (by simp)
          unfold partB at hxp
          simp only [Bool.and_eq_true, decide_eq_true_eq] at hxp
          refine ⟨x :: c1, y :: q1, by rw [e1]; rfl, by rw [e2, List.append_assoc]; rfl, fun t r2 => ?_⟩
          rw [invS]
          simp only [show ¬ ((4 : Int) = 2) by decide, show ¬ ((4 : Int) = 3) by decide, if_true, if_false]
          rw [adoS.eq_def]
          simp only [show ¬ ((4 : Int) = 1) by decide, show ¬ ((4 : Int) = 2) by decide, show ¬ ((4 : Int) = 3) by decide, if_false, List.cons_append]
          rw [ihe]
          simp only
          rw [if_pos hxp.1, hb t, List.append_assoc]; rfl
theorem invK_does : ∀ (f : List (V × E)) (v w : V) (kd : Int), okK kd f → right v = true → KeysOf kd v → adoK f v = .ok w → adoK (invK f) w = .ok v
  | [], v, w, kd, _, _, _, h => by rw [adoK] at h; cases h; rw [invK, adoK]
  | (n, e) :: r, v, w, kd, ha, hv, hk, h => by
    obtain ⟨h1, h2, h3, h4⟩ := ha
    rw [adoK_cons hk h1] at h
    cases hE : ado e (find v n) with
    | bad b => rw [hE] at h; cases h
    | ok y =>
      rw [hE] at h
      simp only at h
      split at h
      · cases h
      rename_i hq
      have hy := ado_right e (find v n) y h2 (rfind hv hk h1) hE
      have py := not_part hy hq
      have r1 := right_put hk h1 py
      have k1 := keys_put hk h1 py
      obtain ⟨hw, hfw⟩ := adoK_find r (putV v n y) w kd h4 r1 k1 h
      have hg : find w n = y := by rw [hfw n h1 (fun e he => h3 e he), find_put hk h1 py hy]
      have ihr := invK_does r (putV v n y) w kd h4 r1 k1 h
      have ihe := inv_does e (find v n) y h2 (rfind hv hk h1) hE
      rw [invK, adoK_cons hw.2 h1, hg, ihe]
      simp only
      have pf := find_part hv hk h1
      rw [if_neg (part_not pf)]
      obtain ⟨i1, i2⟩ := okK_inv h4
      rw [adoK_put (invK r) w (putV v n y) kd i1 hw.1 hw.2 ihr n (find v n) h1 (rfind hv hk h1) pf (fun e he => by
        obtain ⟨z, hz, e2⟩ := i2 e he
        rw [← e2]; exact h3 z hz), put_back hv hk h1 py]
end

end Go.Proofs.YtkldcjlkeblggaaDoor.Val
