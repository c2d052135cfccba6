/- Plain facts: the tokens' texts, a blank ahead of each, are the same tokens. -/
import Derived.Test.YtiofhfcohhfihaaGreatDoorLxPlain
namespace Go.Proofs.YtiofhfcohhfihaaGreatDoor.Lx
set_option linter.unusedVariables false

def mark (t : Bs) : UInt8 := if t.any (· == 34) then 39 else 34
/-- a token's text as it is put down again -/
def body (t : Tok) : Bs := if t.kind = 3 then mark t.text :: (t.text ++ [mark t.text]) else t.text
def render (t : Tok) : Bs := 32 :: body t
/-- what tokens of texts are -/
def good (t : Tok) : Prop :=
  (t.kind = 1 ∧ t.text ≠ [] ∧ (∀ c ∈ t.text, inner c = true) ∧ t.text.head?.map figure = some false ∧ t.text.length ≤ 40 ∧ t.num = 0) ∨
  (t.kind = 2 ∧ t.text ≠ [] ∧ (∀ c ∈ t.text, inner c = true) ∧ t.text.head?.map figure = some true ∧ number t.text = .ok t.num) ∨
  (t.kind = 3 ∧ (∀ c ∈ t.text, c ≠ 92 ∧ c ≠ 10) ∧ (34 ∉ t.text ∨ 39 ∉ t.text) ∧ t.num = 0) ∨
  (t.kind = 4 ∧ (∃ b, t.text = [b] ∧ isSign b = true ∧ inner b = false ∧ b ≠ 34 ∧ b ≠ 39) ∧ t.num = 0)
theorem take_run (p : UInt8 → Bool) (l : Bs) : l.take (run p l) = l.takeWhile p := by
  unfold run
  induction l with
  | nil => rfl
  | cons a r ih => rw [List.takeWhile_cons]; split <;> simp_all
theorem idx1_take {b : UInt8} : ∀ {l : Bs} {n : Nat}, idx1 b l = some n → b ∉ l.take n
  | c :: r, n, h => by
    rw [idx1] at h
    split at h
    · cases h; simp
    · obtain ⟨m, hm, rfl⟩ := Option.map_eq_some_iff.1 h
      have := idx1_take hm
      rw [List.take_succ_cons]
      simp only [List.mem_cons, not_or]
      exact ⟨fun e => by rename_i hc; exact hc e.symm, this⟩
theorem token_good {l : Bs} {k : Nat} {t : Bs} {x n line col : Nat} (h : token l = .ok (k, t, x, n)) : good ⟨k, t, x, line, col⟩ := by
  unfold token at h
  cases l with
  | nil => cases h
  | cons b r =>
    simp only at h
    split at h
    · rename_i h1
      have h2 : (b :: r).take (run inner (b :: r)) = b :: r.takeWhile inner := by rw [take_run, List.takeWhile_cons, if_pos h1]
      have hall : ∀ c ∈ (b :: r).take (run inner (b :: r)), inner c = true := by
        rw [take_run]; intro c hc; exact List.all_eq_true.1 List.all_takeWhile c hc
      split at h
      · rename_i hf
        split at h
        · cases h
        · rename_i y hy
          cases h
          exact .inr (.inl ⟨rfl, by rw [h2]; simp, hall, by rw [h2]; simp [hf], hy⟩)
      · rename_i hf
        split at h
        · cases h
        · rename_i hl
          cases h
          refine .inl ⟨rfl, by rw [h2]; simp, hall, by rw [h2]; simp [hf], ?_, rfl⟩
          have : ((b :: r).take (run inner (b :: r))).length = run inner (b :: r) := by rw [List.length_take]; have := run_le inner (b :: r); omega
          show ((b :: r).take (run inner (b :: r))).length ≤ 40
          omega
    · rename_i h1
      split at h
      · rename_i hq
        split at h
        · cases h
        · rename_i m hm
          split at h
          · cases h
          · rename_i ha
            cases h
            refine .inr (.inr (.inl ⟨rfl, fun c hc => ?_, ?_, rfl⟩))
            · have : ¬ ((c == 92 || c == 10) = true) := fun e => ha (List.any_eq_true.2 ⟨c, hc, e⟩)
              simp only [Bool.or_eq_true, beq_iff_eq, not_or] at this
              exact this
            · have := idx1_take hm
              rcases hq with rfl | rfl
              · exact .inl this
              · exact .inr this
      · rename_i hq
        split at h
        · rename_i hs
          cases h
          exact .inr (.inr (.inr ⟨rfl, ⟨b, rfl, hs, by simpa using h1, fun e => hq (.inl e), fun e => hq (.inr e)⟩, rfl⟩))
        · cases h
/-- what may follow -/
def ends (r : Bs) : Prop := r = [] ∨ r.head? = some 32
theorem run_app {p : UInt8 → Bool} : ∀ {t : Bs} (r : Bs), (∀ c ∈ t, p c = true) → run p (t ++ r) = t.length + run p r
  | [], r, _ => by simp
  | a :: t, r, h => by
    rw [List.cons_append, run_cons, if_pos (h a (by simp)), run_app r (fun c hc => h c (by simp [hc])), List.length_cons]; omega
theorem run_end {p : UInt8 → Bool} (hp : p 32 = false) {r : Bs} (h : ends r) : run p r = 0 := by
  rcases h with rfl | h
  · rfl
  · cases r with
    | nil => rfl
    | cons a q => simp only [List.head?_cons, Option.some.injEq] at h; subst h; rw [run_cons, if_neg (by rw [hp]; simp)]
theorem idx1_app {b : UInt8} : ∀ {t : Bs} (r : Bs), b ∉ t → idx1 b (t ++ b :: r) = some t.length
  | [], r, _ => by simp [idx1]
  | a :: t, r, h => by
    simp only [List.mem_cons, not_or] at h
    rw [List.cons_append, idx1, if_neg (fun e => h.1 e.symm), idx1_app r h.2]; rfl
theorem mark_not {t : Bs} (h : 34 ∉ t ∨ 39 ∉ t) : mark t ∉ t ∧ (mark t = 34 ∨ mark t = 39) := by
  unfold mark
  by_cases h1 : 34 ∈ t
  · have : t.any (· == 34) = true := List.any_eq_true.2 ⟨34, h1, by simp⟩
    rw [if_pos this]
    exact ⟨h.resolve_left (fun h => h h1), .inr rfl⟩
  · have : ¬ t.any (· == 34) = true := fun e => by
      obtain ⟨c, hc, e⟩ := List.any_eq_true.1 e
      have : c = 34 := by simpa using e
      subst this; exact h1 hc
    rw [if_neg this]
    exact ⟨h1, .inl rfl⟩
theorem token_body {t : Tok} (h : good t) {r : Bs} (hr : ends r) : token (body t ++ r) = .ok (t.kind, t.text, t.num, (body t).length) := by
  obtain ⟨k, tx, x, ln, cl⟩ := t
  rcases h with ⟨h1, h2, h3, h4, h5, h6⟩ | ⟨h1, h2, h3, h4, h5⟩ | ⟨h1, h2, h3, h4⟩ | ⟨h1, ⟨b, h2, h3, h4, h5, h6⟩, h7⟩
  all_goals simp only at h1
  · subst h1
    simp only at h2 h3 h4 h5 h6
    subst h6
    have hb : body ⟨1, tx, 0, ln, cl⟩ = tx := by unfold body; rw [if_neg (show ¬ (1 = 3) by decide)]
    rw [hb]
    have hrun : run inner (tx ++ r) = tx.length := by rw [run_app r h3, run_end (by decide) hr]; rfl
    cases tx with
    | nil => exact absurd rfl h2
    | cons b q =>
      have hi : inner b = true := h3 b (by simp)
      have hf : figure b = false := by simpa using h4
      rw [List.cons_append] at hrun ⊢
      unfold token
      simp only
      rw [if_pos hi, if_neg (by rw [hf]; simp), hrun, if_neg (by omega)]
      rw [show b :: (q ++ r) = (b :: q) ++ r from rfl, List.take_left']
      rfl
  · subst h1
    simp only at h2 h3 h4 h5
    have hb : body ⟨2, tx, x, ln, cl⟩ = tx := by unfold body; rw [if_neg (show ¬ (2 = 3) by decide)]
    rw [hb]
    have hrun : run inner (tx ++ r) = tx.length := by rw [run_app r h3, run_end (by decide) hr]; rfl
    cases tx with
    | nil => exact absurd rfl h2
    | cons b q =>
      have hi : inner b = true := h3 b (by simp)
      have hf : figure b = true := by simpa using h4
      rw [List.cons_append] at hrun ⊢
      unfold token
      simp only
      rw [if_pos hi, if_pos hf, hrun]
      rw [show b :: (q ++ r) = (b :: q) ++ r from rfl, List.take_left' rfl, h5]
  · subst h1
    simp only at h2 h3 h4
    subst h4
    have hb : body ⟨3, tx, 0, ln, cl⟩ = mark tx :: (tx ++ [mark tx]) := by unfold body; rw [if_pos rfl]
    rw [hb]
    obtain ⟨hm, hq⟩ := mark_not h3
    have hi : inner (mark tx) = false := by rcases hq with h | h <;> rw [h] <;> decide
    have e : mark tx :: (tx ++ [mark tx]) ++ r = mark tx :: (tx ++ mark tx :: r) := by simp
    rw [e]
    unfold token
    simp only
    rw [if_neg (by rw [hi]; simp), if_pos hq, idx1_app r hm]
    simp only [List.take_left' rfl]
    have : ¬ (tx.any (fun c => c == 92 || c == 10) = true) := fun e => by
      obtain ⟨c, hc, e⟩ := List.any_eq_true.1 e
      have := h2 c hc
      simp [this.1, this.2] at e
    rw [if_neg this]
    simp
  · subst h1
    simp only at h2 h7
    subst h2 h7
    have hb : body ⟨4, [b], 0, ln, cl⟩ = [b] := by unfold body; rw [if_neg (show ¬ (4 = 3) by decide)]
    rw [hb]
    unfold token
    simp only [List.cons_append, List.nil_append]
    rw [if_neg (by rw [h4]; simp), if_neg (fun e => e.elim h5 h6), if_pos h3]
    rfl
/-- the first byte of a token's text begins no gap, and there is no line's end in it -/
theorem body_head {t : Tok} (h : good t) : (∃ b q, body t = b :: q ∧ isGap b = false ∧ b ≠ 47) ∧ ∀ c ∈ body t, c ≠ 10 := by
  have key : ∀ (p : UInt8 → Bool), (∀ d ∈ ([32, 9, 13, 10, 47] : Bs), p d = false) → ∀ c, p c = true → isGap c = false ∧ c ≠ 47 ∧ c ≠ 10 := fun p hp c h => by
    have hne : ∀ d ∈ ([32, 9, 13, 10, 47] : Bs), c ≠ d := fun d hd e => by rw [e, hp d hd] at h; cases h
    refine ⟨?_, hne 47 (by simp), hne 10 (by simp)⟩
    unfold isGap
    simp [hne 32 (by simp), hne 9 (by simp), hne 13 (by simp), hne 10 (by simp)]
  have hin : ∀ c : UInt8, inner c = true → isGap c = false ∧ c ≠ 47 ∧ c ≠ 10 := key inner (by decide)
  have hsg : ∀ c : UInt8, isSign c = true → isGap c = false ∧ c ≠ 47 ∧ c ≠ 10 := key isSign (by decide)
  obtain ⟨k, tx, x, ln, cl⟩ := t
  have word : tx ≠ [] → (∀ c ∈ tx, inner c = true) → k ≠ 3 → (∃ b q, body ⟨k, tx, x, ln, cl⟩ = b :: q ∧ isGap b = false ∧ b ≠ 47) ∧ ∀ c ∈ body ⟨k, tx, x, ln, cl⟩, c ≠ 10 := fun h2 h3 hk => by
    have hb : body ⟨k, tx, x, ln, cl⟩ = tx := by unfold body; rw [if_neg hk]
    rw [hb]
    cases tx with
    | nil => exact absurd rfl h2
    | cons b q => exact ⟨⟨b, q, rfl, (hin b (h3 b (by simp))).1, (hin b (h3 b (by simp))).2.1⟩, fun c hc => (hin c (h3 c hc)).2.2⟩
  rcases h with ⟨h1, h2, h3, h4, h5, h6⟩ | ⟨h1, h2, h3, h4, h5⟩ | ⟨h1, h2, h3, h4⟩ | ⟨h1, ⟨b, h2, h3, h4, h5, h6⟩, h7⟩
  all_goals simp only at h1
  · exact word h2 h3 (by omega)
  · exact word h2 h3 (by omega)
  · subst h1
    have hb : body ⟨3, tx, x, ln, cl⟩ = mark tx :: (tx ++ [mark tx]) := by unfold body; rw [if_pos rfl]
    rw [hb]
    obtain ⟨hm, hq⟩ := mark_not h3
    have hmk : isGap (mark tx) = false ∧ mark tx ≠ 47 ∧ mark tx ≠ 10 := by rcases hq with h | h <;> rw [h] <;> decide
    refine ⟨⟨_, _, rfl, hmk.1, hmk.2.1⟩, fun c hc => ?_⟩
    simp only [List.mem_cons, List.mem_append, List.not_mem_nil, or_false] at hc
    rcases hc with rfl | hc | rfl
    · exact hmk.2.2
    · exact (h2 c hc).2
    · exact hmk.2.2
  · subst h1
    simp only at h2
    subst h2
    have hb : body ⟨4, [b], x, ln, cl⟩ = [b] := by unfold body; rw [if_neg (show ¬ (4 = 3) by decide)]
    rw [hb]
    refine ⟨⟨b, [], rfl, (hsg b h3).1, (hsg b h3).2.1⟩, fun c hc => ?_⟩
    simp only [List.mem_singleton] at hc
    subst hc; exact (hsg c h3).2.2
theorem adv_line (p : Nat × Nat) : ∀ (l : Bs), (∀ c ∈ l, c ≠ 10) → (adv p l).1 = p.1 := by
  intro l
  induction l generalizing p with
  | nil => intro _; rfl
  | cons b r ih =>
    intro h
    have e : adv p (b :: r) = adv (if b = 10 then (p.1 + 1, 1) else (p.1, p.2 + 1)) r := rfl
    rw [e, if_neg (h b (by simp)), ih _ (fun c hc => h c (by simp [hc]))]
/-- the same tokens, on one line -/
def sameOn (line : Nat) : List Tok → List Tok → Prop
  | [], [] => True
  | t :: r, u :: q => u.kind = t.kind ∧ u.text = t.text ∧ u.num = t.num ∧ u.line = line ∧ sameOn line r q
  | _, _ => False
theorem ends_render (ts : List Tok) : ends (ts.flatMap render) := by
  cases ts with
  | nil => exact .inl rfl
  | cons t r => right; rw [List.flatMap_cons]; rfl
theorem split_back : ∀ (ts : List Tok), (∀ t ∈ ts, good t) → ∀ q, ∃ us, splitN (ts.flatMap render) q = .ok us ∧ sameOn q.1 ts us
  | [], _, q => by
    refine ⟨[], ?_, trivial⟩
    have h : gap1 ([] : Bs) = none := by simp [gap1, run]
    rw [List.flatMap_nil, splitN, gapN_none h]
    simp
  | t :: r, hg, q => by
    have ht := hg t (by simp)
    obtain ⟨⟨b, q0, hb, hb1, hb2⟩, hb3⟩ := body_head ht
    have hr := ends_render r
    have htk := token_body ht hr
    have hgap : gap1 (body t ++ r.flatMap render) = none := by
      unfold gap1
      have h1 : run isGap (body t ++ r.flatMap render) = 0 := by rw [hb, List.cons_append, run_cons, if_neg (by rw [hb1]; simp)]
      have h2 : ∀ z, (body t ++ r.flatMap render).take 2 ≠ [47, z] := fun z e => by
        rw [hb, List.cons_append, List.take_succ_cons] at e
        exact hb2 (by simpa using (List.cons.inj e).1)
      rw [h1, if_neg (by omega), if_neg (h2 47), if_neg (h2 42)]
    have hgn : gapN (32 :: (body t ++ r.flatMap render)) = (1, true) := by rw [gapN_cons (by decide), gapN_none hgap]
    obtain ⟨us, h1, h2⟩ := split_back r (fun t h => hg t (by simp [h])) (adv q ((32 :: (body t ++ r.flatMap render)).take (1 + (body t).length)))
    have e : (t :: r).flatMap render = 32 :: (body t ++ r.flatMap render) := by rw [List.flatMap_cons]; rfl
    rw [e]
    have hline : (adv q ((32 :: (body t ++ r.flatMap render)).take 1)).1 = q.1 := by
      rw [List.take_succ_cons, List.take_zero]; exact adv_line q [32] (by simp)
    have hline2 : (adv q ((32 :: (body t ++ r.flatMap render)).take (1 + (body t).length))).1 = q.1 := by
      rw [Nat.add_comm, List.take_succ_cons, List.take_left' rfl]
      exact adv_line q _ (fun c hc => by
        rcases List.mem_cons.1 hc with rfl | hc
        · decide
        · exact hb3 c hc)
    refine ⟨⟨t.kind, t.text, t.num, (adv q ((32 :: (body t ++ r.flatMap render)).take 1)).1, (adv q ((32 :: (body t ++ r.flatMap render)).take 1)).2⟩ :: us, ?_, rfl, rfl, rfl, hline, ?_⟩
    · have h0 : (gapN (32 :: (body t ++ r.flatMap render))).1 = 1 := by rw [hgn]
      rw [splitN_tok (by rw [hgn]) (by rw [h0]; exact htk), h0, List.drop_succ_cons, List.drop_zero, List.drop_left' rfl, h1]
      rfl
    · rw [hline2] at h2; exact h2
theorem splitN_good : ∀ (n : Nat) (l : Bs) (p : Nat × Nat) (ts : List Tok), l.length ≤ n → splitN l p = .ok ts → ∀ t ∈ ts, good t
  | n, l, p, ts, hn, h => by
    rw [splitN] at h
    split at h
    · cases h
    · split at h
      · cases h; simp
      · split at h
        · cases h
        · rename_i k t x m hm
          have hp := token_pos hm
          cases n with
          | zero =>
            rw [List.length_drop] at hp; omega
          | succ n =>
            cases hs : splitN ((l.drop (gapN l).1).drop m) (adv p (l.take ((gapN l).1 + m))) with
            | bad e q => rw [hs] at h; cases h
            | ok us =>
              rw [hs] at h
              cases h
              intro u hu
              rcases List.mem_cons.1 hu with rfl | hu
              · exact token_good hm
              · refine splitN_good n _ _ us ?_ hs u hu
                rw [List.length_drop] at hp ⊢
                rw [List.length_drop]; omega

end Go.Proofs.YtiofhfcohhfihaaGreatDoor.Lx
