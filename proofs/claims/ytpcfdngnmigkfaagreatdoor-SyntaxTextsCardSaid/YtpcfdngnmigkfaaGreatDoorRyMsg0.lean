/- The reference redlineref08: plain facts on a message's parts; an append of a slice onto a row of the call's own. -/
import Derived.Test.YtpcfdngnmigkfaaGreatDoorRyRes2
set_option linter.unusedVariables false
set_option linter.unusedSimpArgs false
namespace Go.Proofs.YtpcfdngnmigkfaaGreatDoor
open Go.RowKit
namespace Sy
open Lx (Bs Tok)
open Sx
section
variable {ts : List Tok}
theorem want_end {i : Nat} {t : Bs} (h : (want ts i [t]).2.2 = 0) : (want ts i [t]).1 ≤ ts.length := by
 rw [want] at h ⊢
 by_cases c : isAt ts i (kindOf t) t = true
 ·rw [if_pos c, want]; exact isAt_lt ts c
 ·rw [if_neg c] at h; cases h
theorem head_end {i : Nat} (h : (Sy.head ts i).2.2.2 = 0) : i + 2 = (Sy.head ts i).2.1 ∧ (Sy.head ts i).2.1 ≤ ts.length := by
 unfold Sy.head at h ⊢; dsimp only at h ⊢
 by_cases c : (name ts i).2.2.2 = 0
 ·rw [if_neg (by simpa using c)] at h ⊢
  exact ⟨by dsimp only; rw [want_next ts h, name_next ts c], want_end h⟩
 ·rw [if_pos c] at h; exact absurd h c
theorem value_end {i : Nat} (h : (valueR ts i).2.2.2 = 0) : (valueR ts i).2.1 ≤ ts.length := by
 unfold valueR at h ⊢
 by_cases c1 : (name ts i).2.2.2 = 0
 ·rw [if_neg (by simpa using c1)] at h ⊢
  by_cases c2 : (want ts (name ts i).2.1 [[61]]).2.2 = 0
  ·rw [if_neg (by simpa using c2)] at h ⊢
   split at h
   ·rename_i c3; exact absurd h c3
   ·rename_i c3; rw [if_neg c3]; exact want_end h
  ·rw [if_pos c2] at h; exact absurd h c2
 ·rw [if_pos c1] at h; exact absurd h c1
theorem valuesL_le : ∀ (n : Nat) (l : List Val) (i : Nat), i ≤ ts.length → (valuesL ts n l i).2.2.2 = 0 → (valuesL ts n l i).2.1 ≤ ts.length
 | 0, l, i, h, _ => h
 | n + 1, l, i, h, h0 => by
  rw [valuesL] at h0 ⊢
  by_cases c : isAt ts (onAt ts i) 4 [125] = true
  ·rw [if_pos c] at h0 ⊢
   split
   ·rename_i d; rw [if_pos d] at h0; cases h0
   ·exact isAt_lt ts c
  ·rw [if_neg c] at h0 ⊢
   by_cases d : (valueR ts (onAt ts i)).2.2.2 = 0
   ·rw [if_neg (by simpa using d)] at h0 ⊢
    exact valuesL_le n _ _ (value_end d) h0
   ·rw [if_pos d] at h0; exact absurd h0 d
theorem enum_end {i : Nat} (h : (enumR ts i).2.2.2 = 0) : (enumR ts i).2.1 ≤ ts.length := by
 unfold enumR at h ⊢
 by_cases c : (Sy.head ts i).2.2.2 = 0
 ·rw [if_neg (by simpa using c)] at h ⊢; exact valuesL_le _ _ _ (head_end c).2 h
 ·rw [if_pos c] at h; exact absurd h c
theorem field_end {i a b : Nat} (h : (Sy.field ts i a b).2.2.2 = 0) : (Sy.field ts i a b).2.1 ≤ ts.length := field_le ts i a b _ (Nat.le_of_lt (field_lt ts h)) (Nat.le_refl _) h
theorem fieldsL_le : ∀ (n k : Nat) (l : List Fld) (i : Nat), i ≤ ts.length → (fieldsL ts n k l i).2.2.2 = 0 → (fieldsL ts n k l i).2.1 ≤ ts.length ∧ (fieldsL ts n k l i).1.length + i ≤ l.length + (fieldsL ts n k l i).2.1
 | 0, k, l, i, h, _ => ⟨h, Nat.le_refl _⟩
 | n + 1, k, l, i, h, h0 => by
  have hg := onAt_ge ts i
  rw [fieldsL] at h0 ⊢
  by_cases c : isAt ts (onAt ts i) 4 [125] = true
  ·rw [if_pos c] at h0 ⊢
   split
   ·rename_i d; rw [if_pos d] at h0; cases h0
   ·exact ⟨isAt_lt ts c, by dsimp only; omega⟩
  ·rw [if_neg c] at h0 ⊢
   by_cases d : (Sy.field ts (onAt ts i) 1 k).2.2.2 = 0
   ·rw [if_neg (by simpa using d)] at h0 ⊢
    have h1 := fieldsL_le n k _ _ (field_end d) h0
    have h2 := field_next ts d
    rw [List.length_append, List.length_singleton] at h1
    exact ⟨h1.1, by omega⟩
   ·rw [if_pos d] at h0; exact absurd h0 d
theorem oneof_end {i k : Nat} (h : (oneofR ts i k).2.2.2 = 0) : (oneofR ts i k).2.1 ≤ ts.length ∧ (oneofR ts i k).1.2.length + i + 1 ≤ (oneofR ts i k).2.1 := by
 unfold oneofR at h ⊢
 by_cases c : (Sy.head ts i).2.2.2 = 0
 ·rw [if_neg (by simpa using c)] at h ⊢
  have h1 := head_end c
  have h2 := fieldsL_le _ _ _ _ h1.2 h
  exact ⟨h2.1, by have := h2.2; simp only [List.length_nil] at this; dsimp only; omega⟩
 ·rw [if_pos c] at h; exact absurd h c
theorem rangesL_le : ∀ (n : Nat) (l : List Rng) (i : Nat), i ≤ ts.length → (rangesL ts n l i).2.2.2 = 0 → (rangesL ts n l i).2.1 ≤ ts.length ∧ (rangesL ts n l i).1.length + i ≤ l.length + (rangesL ts n l i).2.1
 | 0, l, i, h, _ => ⟨h, Nat.le_refl _⟩
 | n + 1, l, i, h, h0 => by
  rw [rangesL] at h0 ⊢
  by_cases c : (rangeR ts i).2.2.2 = 0
  ·rw [if_neg (by simpa using c)] at h0 ⊢
   have h2 := range_next ts c
   by_cases d : isAt ts (rangeR ts i).2.1 4 [44] = true
   ·rw [if_pos d] at h0 ⊢
    have h1 := rangesL_le n _ ((rangeR ts i).2.1 + 1) (isAt_lt ts d) h0
    rw [List.length_append, List.length_singleton] at h1
    exact ⟨h1.1, by omega⟩
   ·rw [if_neg d] at h0 ⊢
    refine ⟨want_end h0, ?_⟩
    rw [List.length_append, List.length_singleton]
    have := want_next ts h0
    dsimp only; omega
  ·rw [if_pos c] at h0; exact absurd h0 c
theorem namesL_le : ∀ (n : Nat) (l : List Bs) (i : Nat), i ≤ ts.length → (namesL ts n l i).2.2.2 = 0 → (namesL ts n l i).2.1 ≤ ts.length ∧ (namesL ts n l i).1.length + i ≤ l.length + (namesL ts n l i).2.1
 | 0, l, i, h, _ => ⟨h, Nat.le_refl _⟩
 | n + 1, l, i, h, h0 => by
  rw [namesL] at h0 ⊢
  by_cases c : isAt ts i 3 [] = true
  ·rw [if_pos c] at h0 ⊢
   by_cases d : isAt ts (i + 1) 4 [44] = true
   ·rw [if_pos d] at h0 ⊢
    have h1 := namesL_le n _ (i + 2) (isAt_lt ts d) h0
    rw [List.length_append, List.length_singleton] at h1
    exact ⟨h1.1, by omega⟩
   ·rw [if_neg d] at h0 ⊢
    refine ⟨want_end h0, ?_⟩
    rw [List.length_append, List.length_singleton]
    have := want_next ts h0
    dsimp only; omega
  ·rw [if_neg c] at h0; cases h0
theorem reserved_end {i : Nat} (hi : i ≤ ts.length) (h : (reservedR ts i).2.2.2 = 0) : (reservedR ts i).2.1 ≤ ts.length ∧ (reservedR ts i).1.1.length + i ≤ (reservedR ts i).2.1 ∧ (reservedR ts i).1.2.length + i ≤ (reservedR ts i).2.1 := by
 unfold reservedR at h ⊢
 by_cases c : isAt ts i 3 [] = true
 ·rw [if_pos c] at h ⊢
  have h2 := namesL_le _ _ _ hi h
  simp only [List.length_nil, Nat.zero_add] at h2 ⊢
  exact ⟨h2.1, by omega, h2.2⟩
 ·rw [if_neg c] at h ⊢
  have h2 := rangesL_le _ _ _ hi h
  simp only [List.length_nil, Nat.zero_add] at h2 ⊢
  exact ⟨h2.1, h2.2, by omega⟩
theorem mapped_end {i : Nat} (h : (Sy.mapped ts i).2.2.2 = 0) : (Sy.mapped ts i).2.1 ≤ ts.length := by
 unfold Sy.mapped at h ⊢
 dsimp only at h ⊢
 split at h
 ·rename_i c; exact absurd h c
 ·rename_i c; rw [if_neg c]
  split at h
  ·rename_i d; exact absurd h d
  ·rename_i d; rw [if_neg d]
   split at h
   ·rename_i e; exact absurd h e
   ·rename_i e; rw [if_neg e]
    split at h
    ·rename_i f; exact absurd h f
    ·rename_i f; rw [if_neg f]
     split at h
     ·rename_i g; exact absurd h g
     ·rename_i g; rw [if_neg g]
      exact rest_le ts _ _ _ (want_end (by simpa using g)) (Nat.le_refl _) h
theorem messageBy_end {B : Nat → Msg → Nat → Msg × Nat × Stop} (hB : ∀ d m i, i ≤ ts.length → (B d m i).2.2.2 = 0 → (B d m i).2.1 ≤ ts.length) {deep i : Nat} (h : (messageByR ts B deep i).2.2.2 = 0) : (messageByR ts B deep i).2.1 ≤ ts.length := by
 unfold messageByR at h ⊢
 split at h
 ·rename_i c; exact absurd h c
 ·rename_i c; rw [if_neg c]
  split at h
  ·cases h
  ·rename_i d; rw [if_neg d]
   split at h
   ·rename_i e; exact absurd h e
   ·rename_i e; rw [if_neg e]
    exact hB _ _ _ (want_end (by simpa using e)) h
theorem part_end {B : Nat → Msg → Nat → Msg × Nat × Stop} (hB : ∀ d m i, i ≤ ts.length → (B d m i).2.2.2 = 0 → (B d m i).2.1 ≤ ts.length) {deep i : Nat} {m : Msg} (h : (partR ts B deep m i).2.2.2 = 0) : (partR ts B deep m i).2.1 ≤ ts.length := by
 revert h
 unfold partR
 split
 ·exact messageBy_end hB
 split
 ·exact enum_end
 split
 ·exact fun h => (oneof_end h).1
 split
 ·rename_i c; exact fun h => (reserved_end (isAt_lt ts c) h).1
 split
 ·exact field_end
 split
 ·exact field_end
 split
 ·exact mapped_end
 ·exact field_end
theorem partsL_le : ∀ (n deep : Nat) (m : Msg) (i : Nat), i ≤ ts.length → (partsL ts n deep m i).2.2.2 = 0 → (partsL ts n deep m i).2.1 ≤ ts.length
 | 0, deep, m, i, h, _ => h
 | n + 1, deep, m, i, h, h0 => by
  rw [partsL] at h0 ⊢
  by_cases c : isAt ts (onAt ts i) 4 [125] = true
  ·rw [if_pos c]; exact isAt_lt ts c
  ·rw [if_neg c] at h0 ⊢
   by_cases d : (partR ts (partsL ts n) deep m (onAt ts i)).2.2.2 = 0
   ·rw [if_neg (by simpa using d)] at h0 ⊢
    exact partsL_le n deep _ _ (part_end (partsL_le n) d) h0
   ·rw [if_pos d] at h0; exact absurd h0 d
theorem part_next {n deep i : Nat} {m : Msg} (h : (partR ts (partsL ts n) deep m i).2.2.2 = 0) : i < (partR ts (partsL ts n) deep m i).2.1 :=
 (part_agree ts (parts_agree ts n) (fun d m s h => by rw [stuck_parts ts h]) deep m i).next ts (part_go ts (parts_go ts n) deep m _) h
def PartL (ts : List Tok) (deep : Nat) (R : Msg × Nat × Stop) (n : Nat) (m : Msg) (j : Nat) (s : Stop) : Prop :=
 if s.2 = 0 then R = partsL ts n deep m j else R.2 = (j, s)
theorem PartL.bad {deep n j : Nat} {m : Msg} {s : Stop} {R : Msg × Nat × Stop} (h : PartL ts deep R n m j s) (hs : ¬ s.2 = 0) : R.2 = (j, s) := by unfold PartL at h; rw [if_neg hs] at h; exact h
theorem PartL.ok {deep n j : Nat} {m : Msg} {s : Stop} {R : Msg × Nat × Stop} (h : PartL ts deep R n m j s) (hs : s.2 = 0) : R = partsL ts n deep m j := by unfold PartL at h; rw [if_pos hs] at h; exact h
theorem partsL_end {n deep i : Nat} {m : Msg} (c : isAt ts (onAt ts i) 4 [125] = true) : partsL ts (n + 1) deep m i = (m, onAt ts i + 1, none0) := by rw [partsL, if_pos c]
theorem PartL.next {deep n j p q : Nat} {m m' : Msg} {s s' : Stop} {R r : Msg × Nat × Stop} (h : PartL ts deep R (n + 1) m j s) (hs : s.2 = 0) (hp : onAt ts j = p) (c : isAt ts p 4 [125] = false) (hr : partR ts (partsL ts n) deep m p = r) (hq : r.2 = (q, s')) (hm : s'.2 = 0 → r.1 = m') :
  PartL ts deep R n m' q s' ∧ (s'.2 = 0 → p < q ∧ q ≤ ts.length) := by
 have h1 := h.ok hs
 have h2 := part_next (ts := ts) (n := n) (deep := deep) (m := m) (i := p)
 have h3 := part_end (ts := ts) (B := partsL ts n) (partsL_le n) (deep := deep) (m := m) (i := p)
 rw [partsL, hp, if_neg (by rw [c]; decide), hr] at h1
 rw [hr, hq] at h2 h3
 rw [hq] at h1
 unfold PartL
 by_cases d : s'.2 = 0
 ·rw [if_neg (by simpa using d), hm d] at h1
  rw [if_pos d]
  exact ⟨h1, fun _ => ⟨h2 d, h3 d⟩⟩
 ·rw [if_pos (by simpa using d)] at h1
  rw [if_neg d, h1]
  exact ⟨rfl, fun e => absurd e d⟩
def Word (ts : List Tok) (p : Nat) (W : Bs) : Prop := ∀ b : Bs, b ≠ [] → isAt ts p 1 b = decide (W = b)
theorem word_no {p : Nat} (h : isAt ts p 1 [] = false) : Word ts p [] := fun b hb => by
 rw [decide_eq_false (fun e => hb e.symm)]
 unfold isAt at h ⊢
 cases hg : ts[p]? with
 | none => rfl
 | some x => rw [hg] at h; simp at h ⊢; exact fun e => absurd e h
theorem word_yes {p : Nat} (h : isAt ts p 1 [] = true) (hl : p < ts.length) : Word ts p ts[p].text := fun b hb => by
 unfold isAt at h ⊢
 rw [List.getElem?_eq_getElem hl] at h ⊢
 simp at h ⊢
 have : b.isEmpty = false := by cases b with
  | nil => exact absurd rfl hb
  | cons _ _ => rfl
 rw [this, Bool.false_or, h]; simp
end
end Sy
theorem toB_lit (W b : Lx.Bs) : ((toB W).toList == b) = decide (W = b) := by
 have := toB_beq W b
 rw [show (toB b).toList = b from by rw [Lib.toList_data, toB_list]] at this
 exact this
section
variable {P : Program} {ops : Array Oper} {Q : Exit → Act → World → Prop} {rest : List Oper} {a : Act} {w : World} {o : Oper}
theorem atOp (k : Op) {d t p af g} (h : wpList P ops Q (⟨d, k, t, p, af, g⟩ :: rest) a w) : wpList P ops Q (⟨d, k, t, p, af, g⟩ :: rest) a w := h
end
theorem wpList_append_ownRs {P : Program} {ops : Array Oper} {rest : List Oper} {op : Oper} {a : Act} {w w0 : World} {Q : Exit → Act → World → Prop} {l : List (Nat × List Value)} {L M : List ORow} {RD : Frag → Prop} {t e : TypeId} {z : Value} {size bytes : Nat} (T : SliceT P t e z size bytes) (hgd : op.guard = .none) (s x : Operand)
  (ho : op.op = .call { callee := .builtin .append, args := #[s, x], argTypes := #[t, t] }) {n m c : Nat} {ad : Option Addr} {v : Value} {xs news : List Value} (H : OwnR w0 l (L ++ ⟨e, size, v, n, xs⟩ :: M) RD w)
  (hs : a.eval s = v) (hx : a.eval x = .slice ad m c) (hnil : ad = none → c = 0) (hmc : m ≤ c) (hrow : HRow (frag w) ad news) (hl : news.length = m * size) (h1 : ∀ u ∈ news, u.oneCell' = true) (hn : (n + m) * bytes ≤ 140737488355328)
  (h : ∀ v' w', OwnR w0 l (L ++ ⟨e, size, v', n + m, xs ++ news⟩ :: M) RD w' → v'.oneCell' = true → wpList P ops Q rest (a.put op.dst v') w') : wpList P ops Q (op :: rest) a w := by
 refine wpList_plain hgd fun K hK => ?_
 refine wp_append_opt T s x ho hs (H.rows.own ⟨e, size, v, n, xs⟩ (by simp)) hx hnil hmc hrow hl h1 hn H.below.size (fun v' w' q1 q2 q3 => hK _ _ (h v' w' (H.push (r := ⟨e, size, v, n, xs⟩) q1 q2 ?_) (own_one q1)))
 rcases q3 with e | e
 ·exact .inl e
 ·exact .inr ⟨_, e, Nat.le_refl _⟩
end Go.Proofs.YtpcfdngnmigkfaaGreatDoor
