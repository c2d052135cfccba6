/- Plain facts: the other way of an edit makes the value again. Plain facts: an. -/
import Derived.Test.YtlmbcoecipbblaaGreatDoorGpE
set_option linter.unusedVariables false
set_option linter.unusedSimpArgs false
namespace Go.Proofs.YtlmbcoecipbblaaGreatDoor.Val
abbrev St := Int × Int × V × E
def lastKeep (out : List St) : Bool := match out.getLast? with
 | some s => decide (s.1 = 1)
 | none => false
def addKeep (out : List St) (c : Int) : List St :=
 if c < 1 then out else if lastKeep out = true then out.dropLast ++ (match out.getLast? with
  | some s => [(s.1, s.2.1 + c, s.2.2.1, s.2.2.2)]
  | none => []) else out ++ [(1, c, v0, .mk 0 v0 v0 [] false ByteArray.empty ByteArray.empty [] [])]
def tstep (st : List St × List St) (s : St) : List St × List St :=
 if s.1 = 1 ∧ 1 ≤ s.2.1 then (addKeep (st.1 ++ st.2) s.2.1, [])
 else if s.1 = 4 ∧ s.2.2.2.kind = 0 then (addKeep (st.1 ++ st.2) 1, [])
 else if s.1 = 4 then (st.1 ++ st.2 ++ [s], [])
 else if s.1 = 2 then (st.1 ++ [s], st.2)
 else if s.1 = 3 then (st.1, st.2 ++ [s])
 else st
def tidyFrom (st : List St × List St) (l : List St) : List St × List St := l.foldl tstep st
def tidy (l : List St) : List St := (tidyFrom ([], []) l).1 ++ (tidyFrom ([], []) l).2
mutual
def inv : E → E
 | .mk k o n f r ro rn s ks =>
  if k = 1 then .mk k n o f r ro rn s ks
  else if k = 2 then .mk k o n (invF f) r rn ro s ks
  else if k = 3 then .mk k o n f r ro rn (tidy (invS s)) ks
  else if k = 4 then .mk k o n f r ro rn s (invK ks)
  else .mk k o n f r ro rn s ks
def invF : List (Int × E) → List (Int × E)
 | [] => []
 | (n, e) :: r => (n, inv e) :: invF r
def invS : List St → List St
 | [] => []
 | (k, c, v, e) :: r => (if k = 2 then (3, c, v, e) else if k = 3 then (2, c, v, e) else if k = 4 then (4, c, v, inv e) else (k, c, v, e)) :: invS r
def invK : List (V × E) → List (V × E)
 | [] => []
 | (k, e) :: r => (k, inv e) :: invK r
end
theorem inv_kind (e : E) : (inv e).kind = e.kind := by
 cases e
 rw [inv]
 split
 ·rfl
 ·split
  ·rfl
  ·split
   ·rfl
   ·split <;> rfl
def stepA (q : St) (l o : List V) : Res (List V × List V) := adoS [q] l o
theorem put_drop (c v e c' v' e') (l o : List V) : adoS [(3, c, v, e), (2, c', v', e')] l o = adoS [(2, c', v', e'), (3, c, v, e)] l o := by
 simp only [adoS.eq_def]
 simp
def tgood (s : St) : Prop := (s.1 = 1 ∧ 1 ≤ s.2.1) ∨ s.1 = 2 ∨ s.1 = 3 ∨ (s.1 = 4 ∧ s.2.2.2.kind ≠ 0)
theorem last_split {l : List St} {s : St} (h : l.getLast? = some s) : l = l.dropLast ++ [s] := by
 have hne : l ≠ [] := by intro e; subst e; simp at h
 rw [List.getLast?_eq_some_getLast hne] at h
 cases h
 exact (List.dropLast_concat_getLast hne).symm
theorem eszS_append : ∀ (a b : List St), eszS (a ++ b) = eszS a + eszS b
 | [], b => by simp [eszS]
 | (k, c, v, e) :: r, b => by rw [List.cons_append, eszS, eszS, eszS_append r b]; omega
theorem esmS_append : ∀ (a b : List St), esmS (a ++ b) ↔ esmS a ∧ esmS b
 | [], b => by simp [esmS]
 | (k, c, v, e) :: r, b => by rw [List.cons_append, esmS, esmS, esmS_append r b, and_assoc]
theorem esz_e0 : esz (.mk 0 v0 v0 [] false ByteArray.empty ByteArray.empty [] []) = 0 := by rw [esz, vmx_v0]; simp [eszF, eszS, eszK]
theorem esm_e0 : esm (.mk 0 v0 v0 [] false ByteArray.empty ByteArray.empty [] []) := by rw [esm]; exact ⟨⟨by decide, by decide⟩, by rw [esmF]; trivial, by rw [esmS]; trivial, by rw [esmK]; trivial⟩
theorem addKeep_esz (out : List St) (c : Int) : eszS (addKeep out c) ≤ eszS out + 1 := by
 unfold addKeep
 split
 ·omega
 ·split
  ·cases h : out.getLast? with
   | none =>
    have : out = [] := by simpa using h
    subst this; simp
   | some s =>
    obtain ⟨k, d, v, e⟩ := s
    have e0 := last_split h
    conv => rhs; rw [e0]
    rw [eszS_append, eszS_append]
    have e1 : eszS [(k, d + c, v, e)] = eszS [(k, d, v, e)] := by simp only [eszS]
    show eszS out.dropLast + eszS [(k, d + c, v, e)] ≤ _
    omega
  ·rw [eszS_append, eszS, eszS, vmx_v0, esz_e0]; omega
theorem addKeep_esm {out : List St} (c : Int) (h : esmS out) : esmS (addKeep out c) := by
 unfold addKeep
 split
 ·exact h
 ·split
  ·cases hl : out.getLast? with
   | none =>
    have : out = [] := by simpa using hl
    subst this; simp [esmS]
   | some s =>
    obtain ⟨k, d, v, e⟩ := s
    have e0 := last_split hl
    rw [e0, esmS_append] at h
    rw [esmS_append]
    refine ⟨h.1, ?_⟩
    have := h.2
    rw [esmS] at this ⊢
    exact this
  ·rw [esmS_append]
   refine ⟨h, ?_⟩
   rw [esmS]; exact ⟨esm_e0, by rw [esmS]; trivial⟩
theorem tstep_esz (st : List St × List St) (s : St) : eszS (tstep st s).1 + eszS (tstep st s).2 ≤ eszS st.1 + eszS st.2 + eszS [s] := by
 obtain ⟨out, puts⟩ := st
 obtain ⟨k, c, v, e⟩ := s
 have h1 := addKeep_esz (out ++ puts) c
 have h2 := addKeep_esz (out ++ puts) 1
 rw [eszS_append] at h1 h2
 have h0 : eszS ([] : List St) = 0 := by rw [eszS]
 have hs : 1 ≤ eszS [(k, c, v, e)] := by rw [eszS]; omega
 unfold tstep
 simp only
 split
 ·simp only [h0]; omega
 ·split
  ·simp only [h0]; omega
  ·split
   ·simp only [eszS_append, h0]; omega
   ·split
    ·simp only [eszS_append]; omega
    ·split
     ·simp only [eszS_append]; omega
     ·simp only; omega
theorem tstep_esm {st : List St × List St} {s : St} (h1 : esmS st.1) (h2 : esmS st.2) (h3 : esmS [s]) : esmS (tstep st s).1 ∧ esmS (tstep st s).2 := by
 obtain ⟨out, puts⟩ := st
 simp only at h1 h2
 have h0 : esmS ([] : List St) := by rw [esmS]; trivial
 have ha : esmS (out ++ puts) := (esmS_append _ _).2 ⟨h1, h2⟩
 unfold tstep
 simp only
 split
 ·exact ⟨addKeep_esm s.2.1 ha, h0⟩
 ·split
  ·exact ⟨addKeep_esm 1 ha, h0⟩
  ·split
   ·exact ⟨(esmS_append _ _).2 ⟨ha, h3⟩, h0⟩
   ·split
    ·exact ⟨(esmS_append _ _).2 ⟨h1, h3⟩, h2⟩
    ·split
     ·exact ⟨h1, (esmS_append _ _).2 ⟨h2, h3⟩⟩
     ·exact ⟨h1, h2⟩
theorem tidyFrom_esz : ∀ (l : List St) (st : List St × List St), eszS (tidyFrom st l).1 + eszS (tidyFrom st l).2 ≤ eszS st.1 + eszS st.2 + eszS l
 | [], st => by simp [tidyFrom]
 | s :: r, st => by
  have h1 := tidyFrom_esz r (tstep st s)
  have h2 := tstep_esz st s
  have e : tidyFrom st (s :: r) = tidyFrom (tstep st s) r := rfl
  rw [e]
  have h3 : eszS (s :: r) = eszS [s] + eszS r := eszS_append [s] r
  omega
theorem tidyFrom_esm : ∀ (l : List St) (st : List St × List St), esmS st.1 → esmS st.2 → esmS l → esmS (tidyFrom st l).1 ∧ esmS (tidyFrom st l).2
 | [], st, h1, h2, _ => ⟨h1, h2⟩
 | s :: r, st, h1, h2, h3 => by
  have h3 := (esmS_append [s] r).1 h3
  have h4 := tstep_esm h1 h2 h3.1
  exact tidyFrom_esm r (tstep st s) h4.1 h4.2 h3.2
theorem tidy_esz (l : List St) : eszS (tidy l) ≤ eszS l := by
 have h := tidyFrom_esz l ([], [])
 have h0 : eszS ([] : List St) = 0 := by rw [eszS]
 unfold tidy
 rw [eszS_append]
 simp only [h0] at h
 omega
theorem tidy_esm {l : List St} (h : esmS l) : esmS (tidy l) := by
 have h0 : esmS ([] : List St) := by rw [esmS]; trivial
 have := tidyFrom_esm l ([], []) h0 h0 h
 unfold tidy
 exact (esmS_append _ _).2 this
mutual
theorem inv_esz : ∀ (e : E), esz (inv e) ≤ esz e
 | .mk k o n f r ro rn s ks => by
  have hF := invF_esz f
  have hS := invS_esz s
  have hK := invK_esz ks
  have hT := tidy_esz (invS s)
  rw [inv]
  split
  ·rw [esz, esz]; omega
  ·split
   ·rw [esz, esz]; omega
   ·split
    ·rw [esz, esz]; omega
    ·split
     ·rw [esz, esz]; omega
     ·omega
theorem invF_esz : ∀ (l : List (Int × E)), eszF (invF l) ≤ eszF l
 | [] => by rw [invF]; omega
 | (n, e) :: r => by rw [invF, eszF, eszF]; have := inv_esz e; have := invF_esz r; omega
theorem invS_esz : ∀ (l : List St), eszS (invS l) ≤ eszS l
 | [] => by rw [invS]; omega
 | (k, c, v, e) :: r => by
  have h1 := inv_esz e
  have h2 := invS_esz r
  rw [invS]
  have e0 : eszS ((k, c, v, e) :: r) = 1 + vmx v + esz e + eszS r := by rw [eszS]
  split
  ·rw [eszS]; omega
  ·split
   ·rw [eszS]; omega
   ·split
    ·rw [eszS]; omega
    ·rw [eszS]; omega
theorem invK_esz : ∀ (l : List (V × E)), eszK (invK l) ≤ eszK l
 | [] => by rw [invK]; omega
 | (n, e) :: r => by rw [invK, eszK, eszK]; have := inv_esz e; have := invK_esz r; omega
end
mutual
theorem inv_esm : ∀ (e : E), esm e → esm (inv e)
 | .mk k o n f r ro rn s ks, h => by
  rw [esm] at h
  obtain ⟨h1, h2, h3, h4⟩ := h
  rw [inv]
  split
  ·rw [esm]; exact ⟨h1, h2, h3, h4⟩
  ·split
   ·rw [esm]; exact ⟨⟨h1.2, h1.1⟩, invF_esm f h2, h3, h4⟩
   ·split
    ·rw [esm]; exact ⟨h1, h2, tidy_esm (invS_esm s h3), h4⟩
    ·split
     ·rw [esm]; exact ⟨h1, h2, h3, invK_esm ks h4⟩
     ·rw [esm]; exact ⟨h1, h2, h3, h4⟩
theorem invF_esm : ∀ (l : List (Int × E)), esmF l → esmF (invF l)
 | [], h => by rw [invF]; exact h
 | (n, e) :: r, h => by rw [esmF] at h; rw [invF, esmF]; exact ⟨inv_esm e h.1, invF_esm r h.2⟩
theorem invS_esm : ∀ (l : List St), esmS l → esmS (invS l)
 | [], h => by rw [invS]; exact h
 | (k, c, v, e) :: r, h => by
  rw [esmS] at h
  have h1 := inv_esm e h.1
  have h2 := invS_esm r h.2
  rw [invS]
  split
  ·rw [esmS]; exact ⟨h.1, h2⟩
  ·split
   ·rw [esmS]; exact ⟨h.1, h2⟩
   ·split
    ·rw [esmS]; exact ⟨h1, h2⟩
    ·rw [esmS]; exact ⟨h.1, h2⟩
theorem invK_esm : ∀ (l : List (V × E)), esmK l → esmK (invK l)
 | [], h => by rw [invK]; exact h
 | (n, e) :: r, h => by rw [esmK] at h; rw [invK, esmK]; exact ⟨inv_esm e h.1, invK_esm r h.2⟩
end
def lastQ (last : Int) : List St → Int
 | [] => last
 | s :: r => lastQ s.1 r
theorem lastQ_append (a : Int) : ∀ (l m : List St), lastQ a (l ++ m) = lastQ (lastQ a l) m
 | [], m => rfl
 | s :: r, m => by rw [List.cons_append, lastQ, lastQ]; exact lastQ_append s.1 r m
def sRight (s : St) : Prop := stepRight s.1 s.2.1 s.2.2.1 s.2.2.2 = true
def okC (last : Int) : List St → Prop
 | [] => True
 | s :: r => sRight s ∧ ¬ (last = 1 ∧ s.1 = 1) ∧ ¬ (last = 3 ∧ s.1 = 2) ∧ okC s.1 r
theorem okC_append (a : Int) : ∀ (l m : List St), okC a (l ++ m) ↔ okC a l ∧ okC (lastQ a l) m
 | [], m => by simp [okC, lastQ]
 | s :: r, m => by rw [List.cons_append, okC, okC, lastQ, okC_append s.1 r m]; simp only [and_assoc]
theorem esteps_iff : ∀ (l : List St) (last : Int) (ch : Bool), esteps last ch l = true ↔ okC last l ∧ (ch = true ∨ ∃ s ∈ l, s.1 ≠ 1)
 | [], last, ch => by rw [esteps, okC]; simp
 | (k, c, v, e) :: r, last, ch => by
  rw [esteps_cons, okC]
  simp only [Bool.and_eq_true, Bool.not_eq_true', decide_eq_false_iff_not]
  rw [esteps_iff r k _]
  unfold sRight
  simp only [Bool.or_eq_true, decide_eq_true_eq]
  constructor
  ·rintro ⟨⟨⟨h1, h2⟩, h3⟩, h4, h5⟩
   refine ⟨⟨h1, h2, h3, h4⟩, ?_⟩
   rcases h5 with (h5 | h5) | ⟨s, hs, h5⟩
   ·exact .inl h5
   ·exact .inr ⟨_, List.mem_cons_self .., h5⟩
   ·exact .inr ⟨s, List.mem_cons_of_mem _ hs, h5⟩
  ·rintro ⟨⟨h1, h2, h3, h4⟩, h5⟩
   refine ⟨⟨⟨h1, h2⟩, h3⟩, h4, ?_⟩
   rcases h5 with h5 | ⟨s, hs, h5⟩
   ·exact .inl (.inl h5)
   ·rcases List.mem_cons.1 hs with rfl | hs
    ·exact .inl (.inr h5)
    ·exact .inr ⟨s, hs, h5⟩
theorem okC_mem : ∀ {l : List St} {a : Int}, okC a l → ∀ s ∈ l, sRight s
 | s :: r, a, h, q, hq => by
  rw [okC] at h
  rcases List.mem_cons.1 hq with rfl | hq
  ·exact h.1
  ·exact okC_mem h.2.2.2 q hq
theorem okC_puts : ∀ {l : List St} {a : Int} (b : Int), (∀ s ∈ l, s.1 = 3) → okC a l → okC b l
 | [], _, _, _, _ => trivial
 | s :: r, a, b, h3, h => by
  rw [okC] at h ⊢
  have := h3 s (by simp)
  exact ⟨h.1, by omega, by omega, h.2.2.2⟩
theorem lastQ_puts : ∀ {l : List St} {a : Int}, (∀ s ∈ l, s.1 = 3) → lastQ a l = 1 → l = [] ∧ a = 1
 | [], a, _, h => ⟨rfl, h⟩
 | s :: r, a, h3, h => by
  rw [lastQ] at h
  have := lastQ_puts (l := r) (fun q hq => h3 q (by simp [hq])) h
  have := h3 s (by simp)
  omega
theorem lastQ_get (l : List St) (h : l ≠ []) (a : Int) : ∃ s, l.getLast? = some s ∧ s.1 = lastQ a l := by
 induction l generalizing a with
 | nil => exact absurd rfl h
 | cons s r ih =>
  cases r with
  | nil => exact ⟨s, rfl, rfl⟩
  | cons q r =>
   obtain ⟨z, h1, h2⟩ := ih (by simp) s.1
   exact ⟨z, by rw [List.getLast?_cons_cons]; exact h1, by rw [lastQ]; exact h2⟩
theorem addKeep_snoc {out : List St} (h : lastQ 0 out ≠ 1) {c : Int} (hc : 1 ≤ c) : addKeep out c = out ++ [(1, c, v0, .mk 0 v0 v0 [] false ByteArray.empty ByteArray.empty [] [])] := by
 unfold addKeep
 rw [if_neg (by omega)]
 have : lastKeep out ≠ true := by
  unfold lastKeep
  cases hn : out with
  | nil => simp
  | cons s r =>
   obtain ⟨z, h1, h2⟩ := lastQ_get out (by rw [hn]; simp) 0
   rw [← hn, h1]
   show decide (z.1 = 1) ≠ true
   rw [h2]
   simpa using h
 rw [if_neg this]
theorem keep_right {c : Int} (h1 : 1 ≤ c) (h2 : c ≤ 1048576) : sRight (1, c, v0, .mk 0 v0 v0 [] false ByteArray.empty ByteArray.empty [] []) := by
 unfold sRight stepRight
 simp only [if_true]
 rw [noneV_v0]
 simp [h1, h2, E.kind, E.bare, bareE, noneV_v0]
theorem sRight_cases {s : St} (h : sRight s) : (s.1 = 1 ∧ 1 ≤ s.2.1 ∧ s.2.1 ≤ 1048576) ∨ s.1 = 2 ∨ s.1 = 3 ∨ (s.1 = 4 ∧ s.2.2.2.kind ≠ 0) := by
 unfold sRight stepRight at h
 split at h
 ·simp only [Bool.and_eq_true, decide_eq_true_eq] at h; exact .inl ⟨‹_›, h.1⟩
 ·split at h
  ·rename_i h2; rcases h2 with h2 | h2
   ·exact .inr (.inl h2)
   ·exact .inr (.inr (.inl h2))
  ·split at h
   ·simp only [Bool.and_eq_true, decide_eq_true_eq, esome] at h; exact .inr (.inr (.inr ⟨‹_›, h.2.2.1⟩))
   ·cases h
def noKK (last : Int) : List St → Prop
 | [] => True
 | s :: r => sRight s ∧ ¬ (last = 1 ∧ s.1 = 1) ∧ noKK s.1 r
theorem tidy_okC : ∀ (l : List St) (pk : Int) (out puts : List St), noKK pk l → okC 0 (out ++ puts) → (∀ s ∈ puts, s.1 = 3) → lastQ 0 out ≠ 3 → (lastQ 0 (out ++ puts) = 1 → pk = 1) →
  okC 0 ((tidyFrom (out, puts) l).1 ++ (tidyFrom (out, puts) l).2)
 | [], pk, out, puts, _, h, _, _, _ => h
 | s :: r, pk, out, puts, hl, ho, hp, h3, h4 => by
  rw [noKK] at hl
  obtain ⟨hs, hkk, hl⟩ := hl
  have e : tidyFrom (out, puts) (s :: r) = tidyFrom (tstep (out, puts) s) r := rfl
  rw [e]
  obtain ⟨k, c, v, x⟩ := s
  rcases sRight_cases hs with ⟨h1, h2, h5⟩ | h1 | h1 | ⟨h1, h2⟩
  ·simp only at h1 h2 h5 hkk hl; subst h1
   have e2 : tstep (out, puts) (1, c, v, x) = (addKeep (out ++ puts) c, []) := by unfold tstep; exact if_pos ⟨rfl, h2⟩
   have hlk : lastQ 0 (out ++ puts) ≠ 1 := fun h => hkk ⟨h4 h, rfl⟩
   rw [e2, addKeep_snoc hlk h2]
   refine tidy_okC r 1 _ _ hl ?_ (fun s h => by cases h) ?_ (fun _ => rfl)
   ·rw [List.append_nil, okC_append]
    exact ⟨ho, by rw [okC]; exact ⟨keep_right h2 h5, fun h => hlk h.1, fun h => by have := h.2; omega, trivial⟩⟩
   ·rw [lastQ_append]; show (1 : Int) ≠ 3; decide
  ·simp only at h1 hl; subst h1
   have e2 : tstep (out, puts) (2, c, v, x) = (out ++ [(2, c, v, x)], puts) := by unfold tstep; simp
   rw [e2]
   rw [okC_append] at ho
   refine tidy_okC r 2 _ _ hl ?_ hp ?_ ?_
   ·rw [okC_append, okC_append]
    refine ⟨⟨ho.1, by rw [okC]; exact ⟨hs, fun h => by have := h.2; simp at this, fun h => h3 h.1, trivial⟩⟩, okC_puts _ hp ho.2⟩
   ·rw [lastQ_append]; show (2 : Int) ≠ 3; decide
   ·rw [lastQ_append, lastQ_append]
    intro h
    have := (lastQ_puts hp h).2
    have : (2 : Int) = 1 := this
    omega
  ·simp only at h1 hl; subst h1
   have e2 : tstep (out, puts) (3, c, v, x) = (out, puts ++ [(3, c, v, x)]) := by unfold tstep; simp
   rw [e2]
   refine tidy_okC r 3 _ _ hl ?_ (fun s h => by
    rcases List.mem_append.1 h with h | h
    ·exact hp s h
    ·simp only [List.mem_singleton] at h; subst h; rfl) h3 ?_
   ·rw [← List.append_assoc, okC_append]
    exact ⟨ho, by rw [okC]; exact ⟨hs, fun h => by have := h.2; simp at this, fun h => by have := h.2; simp at this, trivial⟩⟩
   ·rw [← List.append_assoc, lastQ_append]; intro h; have : (3 : Int) = 1 := h; omega
  ·simp only at h1 h2 hl; subst h1
   have e2 : tstep (out, puts) (4, c, v, x) = (out ++ puts ++ [(4, c, v, x)], []) := by unfold tstep; simp [h2]
   rw [e2]
   refine tidy_okC r 4 _ _ hl ?_ (fun s h => by cases h) ?_ ?_
   ·rw [List.append_nil, okC_append]
    exact ⟨ho, by rw [okC]; exact ⟨hs, fun h => by have := h.2; simp at this, fun h => by have := h.2; simp at this, trivial⟩⟩
   ·rw [lastQ_append]; show (4 : Int) ≠ 3; decide
   ·rw [List.append_nil, lastQ_append]; intro h; have : (4 : Int) = 1 := h; omega
theorem addKeep_mem {out : List St} {s : St} (h : s ∈ out) (hs : s.1 ≠ 1) (c : Int) : s ∈ addKeep out c := by
 unfold addKeep
 split
 ·exact h
 ·split
  ·rename_i hk
   cases hl : out.getLast? with
   | none => unfold lastKeep at hk; rw [hl] at hk; cases hk
   | some q =>
    have h1 : q.1 = 1 := by unfold lastKeep at hk; rw [hl] at hk; simpa using hk
    rw [last_split hl] at h
    rcases List.mem_append.1 h with h | h
    ·exact List.mem_append_left _ h
    ·simp only [List.mem_singleton] at h; subst h; exact absurd h1 hs
  ·exact List.mem_append_left _ h
theorem tidy_mem {s : St} (hs : s.1 ≠ 1) : ∀ (l out puts : List St), (∀ q ∈ l, sRight q) → (s ∈ out ∨ s ∈ puts ∨ s ∈ l) → s ∈ (tidyFrom (out, puts) l).1 ++ (tidyFrom (out, puts) l).2
 | [], out, puts, _, h => by
  rcases h with h | h | h
  ·exact List.mem_append_left _ h
  ·exact List.mem_append_right _ h
  ·cases h
 | q :: r, out, puts, hl, h => by
  have e : tidyFrom (out, puts) (q :: r) = tidyFrom (tstep (out, puts) q) r := rfl
  rw [e]
  have hr : ∀ q ∈ r, sRight q := fun q h => hl q (by simp [h])
  obtain ⟨k, c, v, x⟩ := q
  rcases sRight_cases (hl (k, c, v, x) (by simp)) with ⟨h1, h2, h5⟩ | h1 | h1 | ⟨h1, h2⟩
  ·simp only at h1 h2 h5; subst h1
   have e2 : tstep (out, puts) (1, c, v, x) = (addKeep (out ++ puts) c, []) := by unfold tstep; exact if_pos ⟨rfl, h2⟩
   rw [e2]
   refine tidy_mem hs r _ _ hr ?_
   rcases h with h | h | h
   ·exact .inl (addKeep_mem (List.mem_append_left _ h) hs c)
   ·exact .inl (addKeep_mem (List.mem_append_right _ h) hs c)
   ·rcases List.mem_cons.1 h with rfl | h
    ·exact absurd rfl hs
    ·exact .inr (.inr h)
  ·simp only at h1; subst h1
   have e2 : tstep (out, puts) (2, c, v, x) = (out ++ [(2, c, v, x)], puts) := by unfold tstep; simp
   rw [e2]
   refine tidy_mem hs r _ _ hr ?_
   rcases h with h | h | h
   ·exact .inl (List.mem_append_left _ h)
   ·exact .inr (.inl h)
   ·rcases List.mem_cons.1 h with rfl | h
    ·exact .inl (by simp)
    ·exact .inr (.inr h)
  ·simp only at h1; subst h1
   have e2 : tstep (out, puts) (3, c, v, x) = (out, puts ++ [(3, c, v, x)]) := by unfold tstep; simp
   rw [e2]
   refine tidy_mem hs r _ _ hr ?_
   rcases h with h | h | h
   ·exact .inl h
   ·exact .inr (.inl (List.mem_append_left _ h))
   ·rcases List.mem_cons.1 h with rfl | h
    ·exact .inr (.inl (by simp))
    ·exact .inr (.inr h)
  ·simp only at h1 h2; subst h1
   have e2 : tstep (out, puts) (4, c, v, x) = (out ++ puts ++ [(4, c, v, x)], []) := by unfold tstep; simp [h2]
   rw [e2]
   refine tidy_mem hs r _ _ hr ?_
   rcases h with h | h | h
   ·exact .inl (by simp [h])
   ·exact .inl (by simp [h])
   ·rcases List.mem_cons.1 h with rfl | h
    ·exact .inl (by simp)
    ·exact .inr (.inr h)
def flipK (k : Int) : Int := if k = 2 then 3 else if k = 3 then 2 else k
theorem invS_cons (s : St) (r : List St) : ∃ x, invS (s :: r) = (flipK s.1, s.2.1, s.2.2.1, x) :: invS r ∧ x = if s.1 = 4 then inv s.2.2.2 else s.2.2.2 := by
 obtain ⟨k, c, v, e⟩ := s
 rw [invS]
 unfold flipK
 by_cases h2 : k = 2
 ·subst h2; exact ⟨e, by simp, by simp⟩
 ·by_cases h3 : k = 3
  ·subst h3; exact ⟨e, by simp, by simp⟩
  ·by_cases h4 : k = 4
   ·subst h4; exact ⟨inv e, by simp, by simp⟩
   ·exact ⟨e, by simp [h2, h3, h4], by simp [h4]⟩
theorem cmp_ne {a b : V} (ha : right a = true) (hb : right b = true) (h : cmp a b ≠ 0) : cmp b a ≠ 0 := fun h2 => h (by rw [cmp_eq b a hb ha h2]; exact cmp_refl a)
mutual
theorem inv_right : ∀ (e : E), eright e = true → eright (inv e) = true
 | .mk k o n f r ro rn s ks, h => by
  rw [eright, Bool.and_eq_true] at h
  obtain ⟨hb, h⟩ := h
  rw [inv]
  by_cases h1 : k = 1
  ·subst h1
   simp only [show ¬ ((1 : Int) = 0) by decide, if_true, if_false, Bool.and_eq_true, Bool.not_eq_true', decide_eq_false_iff_not] at h
   rw [if_pos rfl, eright]
   simp only [show ¬ ((1 : Int) = 0) by decide, if_true, if_false, Bool.and_eq_true, Bool.not_eq_true', decide_eq_false_iff_not]
   refine ⟨?_, h.2.1, h.1, cmp_ne h.1 h.2.1 h.2.2⟩
   simpa [bareE] using hb
  ·rw [if_neg h1]
   by_cases h2 : k = 2
   ·subst h2
    simp only [show ¬ ((2 : Int) = 0) by decide, show ¬ ((2 : Int) = 1) by decide, if_true, if_false, Bool.and_eq_true, decide_eq_true_eq, Bool.or_eq_true] at h
    rw [if_pos rfl, eright]
    simp only [show ¬ ((2 : Int) = 0) by decide, show ¬ ((2 : Int) = 1) by decide, if_true, if_false, Bool.and_eq_true, decide_eq_true_eq, Bool.or_eq_true]
    obtain ⟨hf, hr, hro, hfs⟩ := h
    refine ⟨by simpa [bareE] using hb, invF_right f 0 hf, ?_, ?_, ?_⟩
    ·rw [hr]; exact decide_eq_decide.2 ⟨fun h e => h e.symm, fun h e => h e.symm⟩
    ·rcases hro with h | h
     ·exact .inl h
     ·cases hrr : r with
      | true => exact .inl rfl
      | false =>
       right
       rw [hrr] at hr
       have : ro = rn := by simpa using hr.symm
       rw [← this]; exact h
    ·rcases hfs with h | h
     ·exact .inl h
     ·right
      cases f with
      | nil => exact absurd rfl h
      | cons q r => obtain ⟨a, b⟩ := q; rw [invF]; simp
   ·rw [if_neg h2]
    by_cases h3 : k = 3
    ·subst h3
     simp only [show ¬ ((3 : Int) = 0) by decide, show ¬ ((3 : Int) = 1) by decide, show ¬ ((3 : Int) = 2) by decide, if_true, if_false] at h
     rw [if_pos rfl, eright, Bool.and_eq_true]
     simp only [show ¬ ((3 : Int) = 0) by decide, show ¬ ((3 : Int) = 1) by decide, show ¬ ((3 : Int) = 2) by decide, if_true, if_false]
     refine ⟨by simpa [bareE] using hb, ?_⟩
     rw [esteps_iff] at h ⊢
     obtain ⟨hc, hch⟩ := h
     have hn := invS_right s 0 0 hc (fun h => by omega)
     refine ⟨?_, .inr ?_⟩
     ·have := tidy_okC (invS s) 0 [] [] hn trivial (fun s h => by cases h) (by show (0 : Int) ≠ 3; decide) (fun h => by have : (0 : Int) = 1 := h; omega)
      exact this
     ·rcases hch with hch | ⟨q, hq, hq1⟩
      ·cases hch
      ·obtain ⟨z, hz, hz1⟩ := invS_mem s q hq hq1
       exact ⟨z, tidy_mem hz1 (invS s) [] [] (noKK_mem hn) (.inr (.inr hz)), hz1⟩
    ·rw [if_neg h3]
     by_cases h4 : k = 4
     ·subst h4
      simp only [show ¬ ((4 : Int) = 0) by decide, show ¬ ((4 : Int) = 1) by decide, show ¬ ((4 : Int) = 2) by decide, show ¬ ((4 : Int) = 3) by decide, if_true, if_false, Bool.and_eq_true, decide_eq_true_eq] at h
      rw [if_pos rfl, eright]
      simp only [show ¬ ((4 : Int) = 0) by decide, show ¬ ((4 : Int) = 1) by decide, show ¬ ((4 : Int) = 2) by decide, show ¬ ((4 : Int) = 3) by decide, if_true, if_false, Bool.and_eq_true, decide_eq_true_eq]
      refine ⟨by simpa [bareE] using hb, ?_, invK_right ks none h.2⟩
      cases ks with
      | nil => simp at h
      | cons q r => obtain ⟨a, b⟩ := q; rw [invK]; simp
     ·rw [if_neg h4, eright, Bool.and_eq_true]
      exact ⟨hb, h⟩
theorem invF_right : ∀ (f : List (Int × E)) (last : Int), efields last f = true → efields last (invF f) = true
 | [], last, h => by rw [invF]; exact h
 | (n, e) :: r, last, h => by
  rw [efields] at h
  rw [invF, efields]
  simp only [Bool.and_eq_true, decide_eq_true_eq] at h ⊢
  exact ⟨⟨h.1.1, by rw [inv_kind]; exact h.1.2.1, inv_right e h.1.2.2⟩, invF_right r n h.2⟩
theorem invS_right : ∀ (s : List St) (a b : Int), okC a s → (b = 1 → a = 1) → noKK b (invS s)
 | [], a, b, _, _ => by rw [invS]; trivial
 | (k, c, v, e) :: r, a, b, h, hab => by
  rw [okC] at h
  obtain ⟨h1, h2, _, h3⟩ := h
  unfold sRight stepRight at h1
  simp only at h1 h2 h3
  by_cases e1 : k = 1
  ·subst e1
   simp only [if_true] at h1
   rw [invS]
   simp only [show ¬ ((1 : Int) = 2) by decide, show ¬ ((1 : Int) = 3) by decide, show ¬ ((1 : Int) = 4) by decide, if_false]
   rw [noKK]
   exact ⟨by unfold sRight stepRight; simpa using h1, fun h => h2 ⟨hab h.1, rfl⟩, invS_right r 1 1 h3 id⟩
  ·rw [if_neg e1] at h1
   by_cases e2 : k = 2
   ·subst e2
    rw [if_pos (.inl rfl)] at h1
    rw [invS]
    simp only [if_true]
    rw [noKK]
    exact ⟨by unfold sRight stepRight; simpa using h1, fun h => by have := h.2; simp at this, invS_right r 2 3 h3 (fun h => by omega)⟩
   ·by_cases e3 : k = 3
    ·subst e3
     rw [if_pos (.inr rfl)] at h1
     rw [invS]
     simp only [show ¬ ((3 : Int) = 2) by decide, if_true, if_false]
     rw [noKK]
     exact ⟨by unfold sRight stepRight; simpa using h1, fun h => by have := h.2; simp at this, invS_right r 3 2 h3 (fun h => by omega)⟩
    ·rw [if_neg (by simp [e2, e3])] at h1
     by_cases e4 : k = 4
     ·subst e4
      rw [if_pos rfl] at h1
      simp only [Bool.and_eq_true, decide_eq_true_eq, esome] at h1
      rw [invS]
      simp only [show ¬ ((4 : Int) = 2) by decide, show ¬ ((4 : Int) = 3) by decide, if_true, if_false]
      rw [noKK]
      refine ⟨?_, fun h => by have := h.2; simp at this, invS_right r 4 4 h3 (fun h => by omega)⟩
      unfold sRight stepRight
      simp only [show ¬ ((4 : Int) = 1) by decide, show ¬ ((4 : Int) = 2 ∨ (4 : Int) = 3) by decide, if_true, if_false, Bool.and_eq_true, decide_eq_true_eq, esome]
      exact ⟨h1.1, h1.2.1, by rw [inv_kind]; exact h1.2.2.1, inv_right e h1.2.2.2⟩
     ·rw [if_neg e4] at h1; cases h1
theorem invK_right : ∀ (f : List (V × E)) (last : Option V), ekeys last f = true → ekeys last (invK f) = true
 | [], last, h => by rw [invK]; exact h
 | (k, e) :: r, last, h => by
  rw [ekeys.eq_def] at h
  rw [invK, ekeys.eq_def]
  simp only [Bool.and_eq_true, decide_eq_true_eq] at h ⊢
  exact ⟨⟨⟨h.1.1.1, by rw [inv_kind]; exact h.1.1.2.1, inv_right e h.1.1.2.2⟩, h.1.2⟩, invK_right r _ h.2⟩
theorem noKK_mem : ∀ {l : List St} {a : Int}, noKK a l → ∀ s ∈ l, sRight s
 | s :: r, a, h, q, hq => by
  rw [noKK] at h
  rcases List.mem_cons.1 hq with rfl | hq
  ·exact h.1
  ·exact noKK_mem h.2.2 q hq
theorem invS_mem : ∀ (l : List St) (q : St), q ∈ l → q.1 ≠ 1 → ∃ z ∈ invS l, z.1 ≠ 1
 | s :: r, q, hq, h1 => by
  obtain ⟨x, e, _⟩ := invS_cons s r
  rw [e]
  rcases List.mem_cons.1 hq with rfl | hq
  ·refine ⟨_, List.mem_cons_self .., ?_⟩
   show flipK q.1 ≠ 1
   unfold flipK
   split
   ·decide
   ·split
    ·decide
    ·exact h1
  ·obtain ⟨z, hz, hz1⟩ := invS_mem r q hq h1
   exact ⟨z, List.mem_cons_of_mem _ hz, hz1⟩
end
def e0 : E := .mk 0 v0 v0 [] false ByteArray.empty ByteArray.empty [] []
def swapE (o n : V) : E := if cmp o n = 0 then e0 else .mk 1 o n [] false ByteArray.empty ByteArray.empty [] []
def swapF (d e : E) (m : V) : Res E := match avalue (inv d) m with
 | .bad _ => .bad 13
 | .ok o => match avalue e m with
  | .bad _ => .bad 13
  | .ok n => .ok (swapE o n)
theorem esz_e0' : esz e0 = 0 := esz_e0
theorem swapE_esz (o n : V) : esz (swapE o n) ≤ vmx o + vmx n ∧ esm (swapE o n) := by
 unfold swapE
 split
 ·exact ⟨by rw [esz_e0']; exact Nat.zero_le _, esm_e0⟩
 ·exact ⟨by rw [esz]; simp [eszF, eszS, eszK], by rw [esm]; exact ⟨⟨by decide, by decide⟩, by rw [esmF]; trivial, by rw [esmS]; trivial, by rw [esmK]; trivial⟩⟩
theorem avalue_vmx' {e : E} {v x : V} (h : avalue e v = .ok x) : vmx x ≤ vmx v + esz e := by
 unfold avalue at h
 split at h
 ·exact ado_vmx e v x h
 ·cases h
def PairP (d e : E) (r : Res E) : Prop := (∀ b, r = .bad b → b = 12 ∨ b = 13) ∧ ∀ x, r = .ok x → esm x ∧ esz x ≤ 3 * (esz d + esz e)
theorem swapF_pair (d e : E) (m : V) (hm : vmx m ≤ esz d + esz e) : PairP d e (swapF d e m) := by
 unfold PairP swapF
 cases h1 : avalue (inv d) m with
 | bad b => exact ⟨fun b h => (by cases h; exact .inr rfl), fun x h => (by cases h)⟩
 | ok o =>
  simp only
  cases h2 : avalue e m with
  | bad b => exact ⟨fun b h => (by cases h; exact .inr rfl), fun x h => (by cases h)⟩
  | ok n =>
   refine ⟨fun b h => (by cases h), fun x h => ?_⟩
   cases h
   have a1 := avalue_vmx' h1
   have a2 := avalue_vmx' h2
   have a3 := inv_esz d
   have a4 := swapE_esz o n
   exact ⟨a4.2, by omega⟩
theorem pair_same (d e : E) (he : esm e) : PairP d e (.ok e) := ⟨fun b h => (by cases h), fun x h => (by cases h; exact ⟨he, by omega⟩)⟩
theorem pair_same' (d e : E) (hd : esm d) : PairP d e (.ok d) := ⟨fun b h => (by cases h), fun x h => (by cases h; exact ⟨hd, by omega⟩)⟩
theorem esz_parts (e : E) : vmx e.old ≤ esz e ∧ vmx e.new ≤ esz e ∧ eszF e.fields ≤ esz e ∧ eszS e.steps ≤ esz e ∧ eszK e.keys ≤ esz e := by
 obtain ⟨k, o, n, f, r, ro, rn, s, ks⟩ := e
 rw [esz]
 simp only [E.old, E.new, E.fields, E.steps, E.keys]
 omega
open Go.RowKit
theorem addKeep_len (out : List St) (c : Int) : (addKeep out c).length ≤ out.length + 1 := by
 unfold addKeep
 split
 ·omega
 ·split
  ·cases h : out.getLast? with
   | none => simp; omega
   | some s => simp
  ·simp
theorem invS_len : ∀ l : List St, (invS l).length = l.length
 | [] => by rw [invS]
 | (k, c, v, e) :: r => by rw [invS, List.length_cons, List.length_cons, invS_len r]
theorem tidyFrom_snoc (st : List St × List St) (l : List St) (s : St) : tidyFrom st (l ++ [s]) = tstep (tidyFrom st l) s := by
 unfold tidyFrom
 rw [List.foldl_append]; rfl
theorem tidyFrom_take (l : List St) {k : Nat} (hk : k < l.length) : tidyFrom ([], []) (l.take (k + 1)) = tstep (tidyFrom ([], []) (l.take k)) l[k] := by
 rw [show l.take (k + 1) = l.take k ++ [l[k]] by rw [List.take_add_one, List.getElem?_eq_getElem hk]; rfl, tidyFrom_snoc]
end Go.Proofs.YtlmbcoecipbblaaGreatDoor.Val
namespace Go.Proofs.YtlmbcoecipbblaaGreatDoor
open Go.RowKit
open Val (V E St addKeep lastKeep tstep tidyFrom tidy)
def Val.addKeepW (l : List St) (c : Int) : List St :=
 if c < 1 then l else match l.getLast? with
  | none => [(1, c, Val.v0, .mk 0 Val.v0 Val.v0 [] false ByteArray.empty ByteArray.empty [] [])]
  | some s => if s.1 = 1 then l.dropLast ++ [(1, IntKind.i64.wrap (s.2.1 + c), s.2.2.1, s.2.2.2)] else l ++ [(1, c, Val.v0, .mk 0 Val.v0 Val.v0 [] false ByteArray.empty ByteArray.empty [] [])]
theorem Val.addKeepW_lt {l : List St} {c : Int} (h : c < 1) : Val.addKeepW l c = l := if_pos h
theorem Val.addKeepW_sum {l : List St} {s : St} {c : Int} (h : ¬ c < 1) (hs : s.1 = 1) : Val.addKeepW (l ++ [s]) c = l ++ [(1, IntKind.i64.wrap (s.2.1 + c), s.2.2.1, s.2.2.2)] := by
 unfold Val.addKeepW; rw [if_neg h]; simp [hs]
theorem eq_snoc {α : Type} (l : List α) : l = [] ∨ ∃ l0 s, l = l0 ++ [s] := by
 rcases List.eq_nil_or_concat l with h | ⟨l0, s, h⟩
 ·exact .inl h
 ·exact .inr ⟨l0, s, by rw [h, List.concat_eq_append]⟩
theorem Val.addKeepW_new {l : List St} {c : Int} (h : ¬ c < 1) (hm : ¬ ∃ l0 s, l = l0 ++ [s] ∧ s.1 = 1) : Val.addKeepW l c = l ++ [(1, c, Val.v0, .mk 0 Val.v0 Val.v0 [] false ByteArray.empty ByteArray.empty [] [])] := by
 unfold Val.addKeepW; rw [if_neg h]
 rcases eq_snoc l with rfl | ⟨l0, s, rfl⟩
 ·rfl
 ·have hs : ¬ s.1 = 1 := fun e => hm ⟨l0, s, rfl, e⟩
  simp [hs]
def Val.tstepW (st : List St × List St) (s : St) : List St × List St :=
 if s.1 = 1 ∧ 1 ≤ s.2.1 then (Val.addKeepW (st.1 ++ st.2) s.2.1, [])
 else if s.1 = 4 ∧ s.2.2.2.kind = 0 then (Val.addKeepW (st.1 ++ st.2) 1, [])
 else if s.1 = 4 then (st.1 ++ st.2 ++ [s], [])
 else if s.1 = 2 then (st.1 ++ [s], st.2)
 else if s.1 = 3 then (st.1, st.2 ++ [s])
 else st
def Val.tidyW (l : List St) : List St × List St := l.foldl Val.tstepW ([], [])
theorem Val.addKeepW_len (l : List St) (c : Int) : (Val.addKeepW l c).length ≤ l.length + 1 := by
 unfold Val.addKeepW
 split
 ·omega
 ·split
  ·simp
  ·split
   ·simp
   ·simp
theorem Val.tstepW_len (st : List St × List St) (s : St) : (Val.tstepW st s).1.length + (Val.tstepW st s).2.length ≤ st.1.length + st.2.length + 1 := by
 have h1 := Val.addKeepW_len (st.1 ++ st.2) s.2.1
 have h2 := Val.addKeepW_len (st.1 ++ st.2) 1
 rw [List.length_append] at h1 h2
 unfold Val.tstepW
 repeat' split
 all_goals (try simp only [List.length_append, List.length_nil, List.length_singleton])
 all_goals omega
theorem Val.tidyW_take (l : List St) (k : Nat) (hk : k < l.length) : Val.tidyW (l.take (k + 1)) = Val.tstepW (Val.tidyW (l.take k)) l[k] := by
 unfold Val.tidyW
 rw [List.take_succ_eq_append_getElem hk, List.foldl_append]; rfl
theorem Val.tidyW_len (l : List St) : ∀ k, (Val.tidyW (l.take k)).1.length + (Val.tidyW (l.take k)).2.length ≤ k
 | 0 => by simp [Val.tidyW]
 | k + 1 => by
  have ih := Val.tidyW_len l k
  by_cases hk : k < l.length
  ·rw [Val.tidyW_take l k hk]
   have := Val.tstepW_len (Val.tidyW (l.take k)) l[k]
   omega
  ·rw [List.take_of_length_le (by omega)] at ih ⊢
   omega
abbrev Val.tst (l : List Val.St) (k : Nat) : List Val.St × List Val.St := Val.tidyFrom ([], []) (l.take k)
def Val.TInv (l : List Val.St) (k : Nat) : Prop := ∃ pk, Val.noKK pk (l.drop k) ∧ (∀ s ∈ (Val.tst l k).2, s.1 = 3) ∧ (Val.lastQ 0 ((Val.tst l k).1 ++ (Val.tst l k).2) = 1 → pk = 1)
theorem Val.TInv.start {l : List Val.St} (h : Val.noKK 0 l) : Val.TInv l 0 := ⟨0, by simpa using h, fun s hs => by simp [Val.tst, Val.tidyFrom] at hs, fun h => by simp [Val.tst, Val.tidyFrom, Val.lastQ] at h⟩
def Val.StepIs (s : Val.St) (out puts : List Val.St) : Prop :=
 (s.1 = 1 ∧ 1 ≤ s.2.1 ∧ Val.lastQ 0 (out ++ puts) ≠ 1 ∧ Val.tstep (out, puts) s = (Val.addKeep (out ++ puts) s.2.1, [])) ∨ (s.1 = 2 ∧ Val.tstep (out, puts) s = (out ++ [s], puts)) ∨
 (s.1 = 3 ∧ Val.tstep (out, puts) s = (out, puts ++ [s])) ∨ (s.1 = 4 ∧ s.2.2.2.kind ≠ 0 ∧ Val.tstep (out, puts) s = (out ++ puts ++ [s], []))
theorem Val.TInv.step {l : List Val.St} {k : Nat} (h : Val.TInv l k) (hk : k < l.length) : Val.StepIs l[k] (Val.tst l k).1 (Val.tst l k).2 ∧ Val.TInv l (k + 1) ∧ Val.tst l (k + 1) = Val.tstep (Val.tst l k) l[k] := by
 obtain ⟨pk, hn, hp, hq⟩ := h
 have ht : Val.tst l (k + 1) = Val.tstep (Val.tst l k) l[k] := Val.tidyFrom_take l hk
 rw [List.drop_eq_getElem_cons hk, Val.noKK] at hn
 obtain ⟨hs, hkk, hn⟩ := hn
 unfold Val.TInv
 rw [ht]
 generalize Val.tst l k = st at *
 obtain ⟨out, puts⟩ := st
 generalize l[k] = s at *
 obtain ⟨kd, c, v, x⟩ := s
 simp only at hp hq hkk hn ⊢
 rcases Val.sRight_cases hs with ⟨h1, h2, h5⟩ | h1 | h1 | ⟨h1, h2⟩
 ·simp only at h1 h2 h5; subst h1
  have e2 : Val.tstep (out, puts) (1, c, v, x) = (Val.addKeep (out ++ puts) c, []) := by unfold Val.tstep; exact if_pos ⟨rfl, h2⟩
  have hlk : Val.lastQ 0 (out ++ puts) ≠ 1 := fun h => hkk ⟨hq h, rfl⟩
  refine ⟨.inl ⟨rfl, h2, hlk, e2⟩, ⟨1, hn, ?_, fun _ => rfl⟩, trivial⟩
  rw [e2]; exact fun s hs => by cases hs
 ·simp only at h1; subst h1
  have e2 : Val.tstep (out, puts) (2, c, v, x) = (out ++ [(2, c, v, x)], puts) := by unfold Val.tstep; simp
  refine ⟨.inr (.inl ⟨rfl, e2⟩), ⟨2, hn, ?_, fun h => ?_⟩, trivial⟩
  ·rw [e2]; exact hp
  ·rw [e2] at h
   simp only at h
   rw [Val.lastQ_append, Val.lastQ_append] at h
   have := (Val.lastQ_puts hp h).2
   have : (2 : Int) = 1 := this
   omega
 ·simp only at h1; subst h1
  have e2 : Val.tstep (out, puts) (3, c, v, x) = (out, puts ++ [(3, c, v, x)]) := by unfold Val.tstep; simp
  refine ⟨.inr (.inr (.inl ⟨rfl, e2⟩)), ⟨3, hn, ?_, fun h => ?_⟩, trivial⟩
  ·rw [e2]
   intro s hs
   rcases List.mem_append.1 hs with h | h
   ·exact hp s h
   ·simp only [List.mem_singleton] at h; subst h; rfl
  ·rw [e2] at h
   simp only at h
   rw [← List.append_assoc, Val.lastQ_append] at h
   have : (3 : Int) = 1 := h; omega
 ·simp only at h1 h2; subst h1
  have e2 : Val.tstep (out, puts) (4, c, v, x) = (out ++ puts ++ [(4, c, v, x)], []) := by unfold Val.tstep; simp [h2]
  refine ⟨.inr (.inr (.inr ⟨rfl, h2, e2⟩)), ⟨4, hn, ?_, fun h => ?_⟩, trivial⟩
  ·rw [e2]; exact fun s hs => by cases hs
  ·rw [e2] at h
   simp only at h
   rw [List.append_nil, Val.lastQ_append] at h
   have : (4 : Int) = 1 := h; omega
theorem Val.tstepW_is {s : Val.St} {out puts : List Val.St} (h : Val.StepIs s out puts) : Val.tstepW (out, puts) s = Val.tstep (out, puts) s := by
 rcases h with ⟨h1, h2, h3, e⟩ | ⟨h1, e⟩ | ⟨h1, e⟩ | ⟨h1, h2, e⟩
 ·rw [e, Val.addKeep_snoc h3 h2]
  unfold Val.tstepW
  rw [if_pos ⟨h1, h2⟩, Val.addKeepW_new (by omega)]
  rintro ⟨l0, t, e1, e2⟩
  have e3 : out ++ puts = l0 ++ [t] := e1
  rw [e3, Val.lastQ_append] at h3
  exact h3 e2
 ·rw [e]; unfold Val.tstepW; simp [h1]
 ·rw [e]; unfold Val.tstepW; simp [h1]
 ·rw [e]; unfold Val.tstepW; simp [h1, h2]
theorem Val.tidyW_at {l : List Val.St} (hn : Val.noKK 0 l) : ∀ k, k ≤ l.length → Val.tidyW (l.take k) = Val.tst l k ∧ Val.TInv l k
 | 0, _ => ⟨by simp [Val.tidyW, Val.tst, Val.tidyFrom], .start hn⟩
 | k + 1, hk => by
  obtain ⟨h1, h2⟩ := Val.tidyW_at hn k (by omega)
  obtain ⟨q1, q2, q3⟩ := h2.step (show k < l.length by omega)
  exact ⟨by rw [Val.tidyW_take l k (by omega), h1, q3]; exact Val.tstepW_is q1, q2⟩
def Val.invOne (s : Val.St) : Val.St := if s.1 = 2 then (3, s.2.1, s.2.2.1, s.2.2.2) else if s.1 = 3 then (2, s.2.1, s.2.2.1, s.2.2.2) else if s.1 = 4 then (4, s.2.1, s.2.2.1, Val.inv s.2.2.2) else s
theorem Val.invS_one (s : Val.St) (r : List Val.St) : Val.invS (s :: r) = Val.invOne s :: Val.invS r := by
 obtain ⟨k, c, v, e⟩ := s
 rw [Val.invS]; rfl
theorem Val.invS_take : ∀ (f : List Val.St) (k : Nat) (h : k < f.length), Val.invS (f.take (k + 1)) = Val.invS (f.take k) ++ [Val.invOne f[k]]
 | s :: r, 0, _ => by rw [List.take_succ_cons, Val.invS_one]; simp [Val.invS]
 | s :: r, k + 1, h => by
  rw [List.take_succ_cons, List.take_succ_cons, Val.invS_one, Val.invS_one, Val.invS_take r k (by simpa using h)]; rfl
theorem Val.eszS_mem : ∀ {l : List Val.St} {e : Val.St}, e ∈ l → Val.esz e.2.2.2 ≤ Val.eszS l
 | (k, c, v, x) :: r, e, h => by
  rw [Val.eszS]
  rcases List.mem_cons.1 h with rfl | h
  ·simp only; omega
  ·have := Val.eszS_mem h; omega
theorem sright_edit {s : Val.St} (h : Val.sRight s) (h4 : s.1 = 4) : Val.eright s.2.2.2 = true := by
 obtain ⟨k, c, v, x⟩ := s
 simp only at h4
 subst h4
 unfold Val.sRight Val.stepRight at h
 simp only [show ¬ ((4 : Int) = 1) by decide, show ¬ ((4 : Int) = 2 ∨ (4 : Int) = 3) by decide, if_true, if_false, Bool.and_eq_true, decide_eq_true_eq, Val.esome] at h
 exact h.2.2.2
theorem Val.invF_take : ∀ (f : List (Int × E)) (k : Nat) (h : k < f.length), Val.invF (f.take (k + 1)) = Val.invF (f.take k) ++ [(f[k].1, Val.inv f[k].2)]
 | (n, e) :: r, 0, _ => by simp [Val.invF]
 | (n, e) :: r, k + 1, h => by
  rw [List.take_succ_cons, List.take_succ_cons, Val.invF, Val.invF, Val.invF_take r k (by simpa using h)]; rfl
theorem Val.eszF_mem : ∀ {l : List (Int × E)} {e : Int × E}, e ∈ l → Val.esz e.2 ≤ Val.eszF l
 | (n, v) :: r, e, h => by
  rw [Val.eszF]
  rcases List.mem_cons.1 h with rfl | h
  ·simp only; omega
  ·have := Val.eszF_mem h; omega
theorem Val.invK_take : ∀ (f : List (V × E)) (k : Nat) (h : k < f.length), Val.invK (f.take (k + 1)) = Val.invK (f.take k) ++ [(f[k].1, Val.inv f[k].2)]
 | (n, e) :: r, 0, _ => by simp [Val.invK]
 | (n, e) :: r, k + 1, h => by
  rw [List.take_succ_cons, List.take_succ_cons, Val.invK, Val.invK, Val.invK_take r k (by simpa using h)]; rfl
theorem Val.eszK_mem : ∀ {l : List (V × E)} {e : V × E}, e ∈ l → Val.esz e.2 ≤ Val.eszK l
 | (n, v) :: r, e, h => by
  rw [Val.eszK]
  rcases List.mem_cons.1 h with rfl | h
  ·simp only; omega
  ·have := Val.eszK_mem h; omega
theorem steps_of_right {x : E} (hk : x.kind = 3) (hr : Val.eright x = true) : Val.esteps 0 false x.steps = true := by
 obtain ⟨k, o, n, f, r, ro, rn, s, ks⟩ := x
 have : k = 3 := hk
 subst this
 rw [Val.eright] at hr
 simp at hr
 exact hr.2
end Go.Proofs.YtlmbcoecipbblaaGreatDoor
