/- Plain facts: the reference's rules of the grammar, each from a place on. Plain facts: the reference's rules and the parser say the same: names, numbers, signs, dotted names. Plain facts: the reference's rules and the parser say the same: one option. Plain facts: the reference's rules and the parser say the same: a field's options. Plain facts: the reference's rules and the parser say the same: a field behind its type, whole fields. Plain facts: the reference's rules and the parser say the same: maps. Plain facts: the reference's rules and the parser say the same: empty parts, a block's end. Plain facts: the reference's rules and the parser say the same: enums. Plain facts: the reference's rules and the parser say the same: oneofs, reserved lists. Plain facts: the reference's rules and the parser say the same: messages. -/
import Derived.Test.YtpcfdngnmigkfaaGreatDoorGroupB
set_option linter.unusedVariables false
set_option linter.unusedSimpArgs false
namespace Go.Proofs.YtpcfdngnmigkfaaGreatDoor.Sy
open Lx (Bs Tok)
open Sx
abbrev Stop := Nat × Nat
def none0 : Stop := (0, 0)
def bad (i : Nat) : Stop := (i, 9)
variable (ts : List Tok)
def isAt (i k : Nat) (t : Bs) : Bool := match ts[i]? with
 | none => false
 | some x => decide (x.kind = k) && (t.isEmpty || decide (x.text = t))
def kindOf (t : Bs) : Nat := match t with
 | [] => 4
 | b :: _ => if 97 ≤ b ∧ b ≤ 122 then 1 else 4
def want : Nat → List Bs → Nat × Stop
 | i, [] => (i, none0)
 | i, t :: r => if isAt ts i (kindOf t) t then want (i + 1) r else (i, bad i)
def name (i : Nat) : Tok × Nat × Stop := if isAt ts i 1 [] then ((ts[i]?).getD zTok, i + 1, none0) else (zTok, i, bad i)
def number (i : Nat) : Nat × Nat × Stop := if isAt ts i 2 [] then (((ts[i]?).getD zTok).num, i + 1, none0) else (0, i, bad i)
def dottedL : Nat → Bs → Nat → Bs × Nat × Stop
 | 0, s, i => (s, i, none0)
 | n + 1, s, i =>
  let a := name ts i
  if a.2.2.2 ≠ 0 then ([], i, a.2.2)
  else if isAt ts a.2.1 4 [46] then dottedL n (s ++ a.1.text ++ [46]) (a.2.1 + 1)
  else (s ++ a.1.text, a.2.1, none0)
def dotted (i : Nat) (ty : Bool) : Bs × Nat × Stop :=
 if ty = true ∧ isAt ts i 4 [46] = true then dottedL ts (ts.length + 1) [46] (i + 1) else dottedL ts (ts.length + 1) [] i
def option1 (f : Fld) (i : Nat) : Fld × Nat × Stop :=
 if isAt ts i 1 bPacked = true ∧ f.packed = 0 then
  let a := want ts (i + 1) [[61]]
  if a.2.2 ≠ 0 then (f, i, a.2)
  else if isAt ts a.1 1 bTrue then ({ f with packed := 1 }, a.1 + 1, none0)
  else if isAt ts a.1 1 bFalse then ({ f with packed := 2 }, a.1 + 1, none0)
  else (f, i, bad a.1)
 else if isAt ts i 1 bKey = true ∧ f.key.length = 0 then
  let a := want ts (i + 1) [[61]]
  if a.2.2 ≠ 0 then (f, i, a.2)
  else
   let b := name ts a.1
   if b.2.2.2 ≠ 0 then (f, i, b.2.2) else ({ f with key := b.1.text }, b.2.1, none0)
 else (f, i, bad i)
def optionsL : Nat → Fld → Nat → Fld × Nat × Stop
 | 0, f, i => (f, i, none0)
 | n + 1, f, i =>
  let a := option1 ts f (i + 1)
  if a.2.2.2 ≠ 0 then a
  else if isAt ts a.2.1 4 [44] then optionsL n a.1 a.2.1
  else
   let b := want ts a.2.1 [[93]]
   (a.1, b.1, b.2)
def options (f : Fld) (i : Nat) : Fld × Nat × Stop :=
 let a := if isAt ts i 4 [91] then optionsL ts (ts.length + 1) f i else (f, i, none0)
 if a.2.2.2 ≠ 0 then a
 else
  let b := want ts a.2.1 [[59]]
  (a.1, b.1, b.2)
def rest (f : Fld) (i : Nat) : Fld × Nat × Stop :=
 let a := name ts i
 if a.2.2.2 ≠ 0 then (f, a.2.1, a.2.2)
 else
  let f1 : Fld := { f with name := a.1.text, line := a.1.line, col := a.1.col }
  let b := want ts a.2.1 [[61]]
  if b.2.2 ≠ 0 then (f1, b.1, b.2)
  else
   let c := number ts b.1
   if c.2.2.2 ≠ 0 then ({ f1 with number := c.1 }, c.2.1, c.2.2) else options ts { f1 with number := c.1 } c.2.1
def field (i label oneof : Nat) : Fld × Nat × Stop :=
 let f : Fld := { zFld with label := label, oneof := oneof }
 let a := dotted ts i true
 if a.2.2.2 ≠ 0 then (f, a.2.1, a.2.2) else rest ts { f with typ := a.1 } a.2.1
def mapped (i : Nat) : Fld × Nat × Stop :=
 let f : Fld := { zFld with label := 4 }
 let a := want ts i [[60]]
 if a.2.2 ≠ 0 then (f, a.1, a.2)
 else
  let b := name ts a.1
  if b.2.2.2 ≠ 0 then (f, b.2.1, b.2.2)
  else
   let f1 : Fld := { f with mapKey := b.1.text }
   let c := want ts b.2.1 [[44]]
   if c.2.2 ≠ 0 then (f1, c.1, c.2)
   else
    let d := dotted ts c.1 true
    if d.2.2.2 ≠ 0 then ({ f1 with typ := d.1 }, d.2.1, d.2.2)
    else
     let e := want ts d.2.1 [[62]]
     if e.2.2 ≠ 0 then ({ f1 with typ := d.1 }, e.1, e.2) else rest ts { f1 with typ := d.1 } e.1
def semisL : Nat → Nat → Nat
 | 0, i => i
 | n + 1, i => if isAt ts i 4 [59] then semisL n (i + 1) else i
def head (i : Nat) : Tok × Nat × Stop :=
 let a := name ts i
 if a.2.2.2 ≠ 0 then a
 else
  let b := want ts a.2.1 [[123]]
  (a.1, b.1, b.2)
def Agree {α : Type} (r : α × Nat × Stop) (f : α × St) : Prop :=
 if r.2.2.2 = 0 then f = (r.1, ⟨r.2.1, none⟩) else f.2.err = some (r.2.2.2, ((ts[r.2.2.1]?).getD zTok).line, ((ts[r.2.2.1]?).getD zTok).col)
theorem isAt_sees (i k : Nat) (t : Bs) (ht : t ≠ []) (hk : k ≠ 0) : isAt ts i k t = sees ts k t ⟨i, none⟩ := by
 unfold isAt sees peek
 simp only [Option.isSome_none, Bool.false_eq_true, if_false]
 cases hg : ts[i]? with
 | none =>
  simp only [Option.getD_none]
  exact (decide_eq_false (fun e => hk e.1.symm)).symm
 | some x =>
  simp only [Option.getD_some]
  have : t.isEmpty = false := by cases t with
   | nil => exact absurd rfl ht
   | cons a r => rfl
  rw [this, Bool.false_or]
  simp
theorem fail_at (i : Nat) : (fail ts ⟨i, none⟩).err = some (9, ((ts[i]?).getD zTok).line, ((ts[i]?).getD zTok).col) := by
 unfold fail peek; simp
theorem name_agree (i : Nat) : Agree ts (name ts i) (of ts 1 ⟨i, none⟩) := by
 unfold Agree name of
 have hp : peek ts ⟨i, none⟩ = (ts[i]?).getD zTok := by unfold peek; simp
 have hi : isAt ts i 1 [] = decide (((ts[i]?).getD zTok).kind = 1) := by
  unfold isAt
  cases hg : ts[i]? with
  | none => rfl
  | some x => simp
 rw [hp, hi]
 by_cases h : ((ts[i]?).getD zTok).kind = 1
 ·simp [h, none0, St.next]
 ·simp [h, bad, fail_at]
end Go.Proofs.YtpcfdngnmigkfaaGreatDoor.Sy
namespace Go.Proofs.YtpcfdngnmigkfaaGreatDoor.Sy
open Lx (Bs Tok)
open Sx
variable (ts : List Tok)
theorem name_next {i : Nat} (h : (name ts i).2.2.2 = 0) : (name ts i).2.1 = i + 1 := by
 unfold name at h ⊢
 split
 ·rfl
 ·rename_i h2; rw [if_neg h2] at h; cases h
theorem number_agree (i : Nat) : Agree ts (number ts i) ((of ts 2 ⟨i, none⟩).1.num, (of ts 2 ⟨i, none⟩).2) := by
 unfold Agree number of
 have hp : peek ts ⟨i, none⟩ = (ts[i]?).getD zTok := by unfold peek; simp
 have hi : isAt ts i 2 [] = decide (((ts[i]?).getD zTok).kind = 2) := by
  unfold isAt
  cases hg : ts[i]? with
  | none => rfl
  | some x => simp
 rw [hp, hi]
 by_cases h : ((ts[i]?).getD zTok).kind = 2
 ·simp [h, none0, St.next]
 ·simp [h, bad, fail_at]
theorem sign_agree (i : Nat) (b : UInt8) (hb : ¬ (97 ≤ b ∧ b ≤ 122)) : Agree ts ((), want ts i [[b]]) ((), sign ts b ⟨i, none⟩) := by
 have hk : kindOf [b] = 4 := by unfold kindOf; simp only; rw [if_neg hb]
 have hs := isAt_sees ts i 4 [b] (by simp) (by decide)
 unfold Agree sign must
 rw [← hs]
 simp only [want, hk]
 by_cases h : isAt ts i 4 [b] = true
 ·simp [h, none0, St.next]
 ·simp [h, bad, fail_at]
theorem dots_agree : ∀ (n m : Nat) (pre : Bs) (i : Nat), 1 ≤ n → ts.length < n + i → ts.length ≤ m + i →
  Agree ts (dottedL ts n pre i) (dots ts m (pre ++ (of ts 1 ⟨i, none⟩).1.text) (of ts 1 ⟨i, none⟩).2)
 | 0, m, pre, i, h1, _, _ => absurd h1 (by decide)
 | n + 1, m, pre, i, h1, h2, h3 => by
  have ha := name_agree ts i
  rw [dottedL]
  unfold Agree at ha
  by_cases hb : (name ts i).2.2.2 = 0
  ·rw [if_pos hb] at ha
   have hn := name_next ts hb
   rw [if_neg (by simpa using hb), ha, hn]
   simp only
   have hs := isAt_sees ts (i + 1) 4 [46] (by simp) (by decide)
   by_cases hd : isAt ts (i + 1) 4 [46] = true
   ·rw [if_pos hd]
    have hs2 : sees ts 4 [46] ⟨i + 1, none⟩ = true := by rw [← hs]; exact hd
    have hlt : i + 1 < ts.length := by
     unfold isAt at hd
     cases hg : ts[i + 1]? with
     | none => rw [hg] at hd; cases hd
     | some x => exact (List.getElem?_eq_some_iff.1 hg).1
    obtain ⟨k, rfl⟩ : ∃ k, m = k + 1 := ⟨m - 1, by omega⟩
    rw [dots, if_pos hs2]
    have ih := dots_agree n k (pre ++ (name ts i).1.text ++ [46]) (i + 1 + 1) (by omega) (by omega) (by omega)
    rw [List.append_assoc (pre ++ (name ts i).1.text)] at ih
    exact ih
   ·rw [if_neg hd]
    have hs2 : sees ts 4 [46] ⟨i + 1, none⟩ = false := by rw [← hs]; simpa using hd
    have e : dots ts m (pre ++ (name ts i).1.text) ⟨i + 1, none⟩ = (pre ++ (name ts i).1.text, ⟨i + 1, none⟩) := by
     cases m with
     | zero => rfl
     | succ m => rw [dots, if_neg (by rw [hs2]; decide)]
    rw [e]
    unfold Agree
    simp [none0]
  ·rw [if_neg hb] at ha
   rw [if_pos (by simpa using hb)]
   unfold Agree
   rw [if_neg hb, stuck_dots ts (by rw [ha]; rfl)]
   exact ha
theorem dotted_agree (i : Nat) : Agree ts (dotted ts i false) (Sx.dotted ts ⟨i, none⟩) := by
 unfold dotted Sx.dotted
 rw [if_neg (by simp)]
 exact dots_agree ts _ _ [] i (by omega) (by omega) (by omega)
theorem dots_pre (p : Bs) : ∀ (n : Nat) (a : Bs) (s : St), dots ts n (p ++ a) s = (p ++ (dots ts n a s).1, (dots ts n a s).2)
 | 0, a, s => rfl
 | n + 1, a, s => by
  rw [dots, dots]
  split
  ·rw [List.append_assoc]; exact dots_pre p n _ _
  ·rfl
theorem typ_agree (i : Nat) : Agree ts (dotted ts i true) (typ ts ⟨i, none⟩) := by
 have hs := isAt_sees ts i 4 [46] (by simp) (by decide)
 unfold dotted typ
 rw [← hs]
 by_cases h : isAt ts i 4 [46] = true
 ·rw [if_pos ⟨rfl, h⟩, if_pos h]
  have ha := dots_agree ts (ts.length + 1) (ts.length + 1) [46] (i + 1) (by omega) (by omega) (by omega)
  rw [dots_pre] at ha
  exact ha
 ·rw [if_neg (fun e => h e.2), if_neg h]
  exact dots_agree ts _ _ [] i (by omega) (by omega) (by omega)
end Go.Proofs.YtpcfdngnmigkfaaGreatDoor.Sy
namespace Go.Proofs.YtpcfdngnmigkfaaGreatDoor.Sy
open Lx (Bs Tok)
open Sx
variable (ts : List Tok)
theorem sign_ok {i : Nat} {b : UInt8} (hb : ¬ (97 ≤ b ∧ b ≤ 122)) (h : (want ts i [[b]]).2.2 = 0) : sign ts b ⟨i, none⟩ = ⟨(want ts i [[b]]).1, none⟩ := by
 have ha := sign_agree ts i b hb
 unfold Agree at ha
 rw [if_pos h] at ha
 exact (Prod.mk.inj ha).2
theorem sign_no {i : Nat} {b : UInt8} (hb : ¬ (97 ≤ b ∧ b ≤ 122)) (h : (want ts i [[b]]).2.2 ≠ 0) : (sign ts b ⟨i, none⟩).err = some ((want ts i [[b]]).2.2, ((ts[(want ts i [[b]]).2.1]?).getD zTok).line, ((ts[(want ts i [[b]]).2.1]?).getD zTok).col) := by
 have ha := sign_agree ts i b hb
 unfold Agree at ha
 rw [if_neg h] at ha
 exact ha
theorem option_agree (f : Fld) (i : Nat) : Agree ts (option1 ts f i) (option ts f ⟨i, none⟩) := by
 have h1 := isAt_sees ts i 1 bPacked (by decide) (by decide)
 have h2 := isAt_sees ts i 1 bKey (by decide) (by decide)
 have hq : ¬ ((97 : UInt8) ≤ 61 ∧ (61 : UInt8) ≤ 122) := by decide
 unfold option1 option
 rw [← h1, ← h2]
 by_cases c1 : isAt ts i 1 bPacked = true ∧ f.packed = 0
 ·rw [if_pos c1, if_pos (show f.packed = 0 ∧ isAt ts i 1 bPacked = true from ⟨c1.2, c1.1⟩)]
  have hn : (St.next ⟨i, none⟩) = ⟨i + 1, none⟩ := rfl
  rw [hn]
  by_cases hw : (want ts (i + 1) [[61]]).2.2 = 0
  ·rw [if_neg (by simpa using hw), sign_ok ts hq hw, ← isAt_sees ts _ 1 bTrue (by decide) (by decide)]
   by_cases ht : isAt ts (want ts (i + 1) [[61]]).1 1 bTrue = true
   ·rw [if_pos ht, if_pos ht]; unfold Agree; simp [none0, St.next]
   ·rw [if_neg ht, if_neg ht]
    unfold must
    rw [← isAt_sees ts _ 1 bFalse (by decide) (by decide)]
    by_cases hf : isAt ts (want ts (i + 1) [[61]]).1 1 bFalse = true
    ·rw [if_pos hf, if_pos hf]; unfold Agree; simp [none0, St.next]
    ·rw [if_neg hf, if_neg hf]; unfold Agree; simp [bad, fail_at]
  ·rw [if_pos (by simpa using hw)]
   have he := sign_no ts hq hw
   have hes : (sign ts 61 ⟨i + 1, none⟩).err.isSome = true := by rw [he]; rfl
   rw [stuck_sees ts hes (by decide), if_neg (by decide), stuck_must ts hes (by decide)]
   unfold Agree
   simp only
   rw [if_neg hw]
   exact he
 ·rw [if_neg c1, if_neg (show ¬ (f.packed = 0 ∧ isAt ts i 1 bPacked = true) from fun e => c1 ⟨e.2, e.1⟩)]
  by_cases c2 : isAt ts i 1 bKey = true ∧ f.key.length = 0
  ·rw [if_pos c2, if_pos (show f.key = [] ∧ isAt ts i 1 bKey = true from ⟨List.length_eq_zero_iff.1 c2.2, c2.1⟩)]
   have hn : (St.next ⟨i, none⟩) = ⟨i + 1, none⟩ := rfl
   rw [hn]
   by_cases hw : (want ts (i + 1) [[61]]).2.2 = 0
   ·rw [if_neg (by simpa using hw), sign_ok ts hq hw]
    have hb := name_agree ts (want ts (i + 1) [[61]]).1
    unfold Agree at hb
    by_cases hx : (name ts (want ts (i + 1) [[61]]).1).2.2.2 = 0
    ·rw [if_pos hx] at hb
     rw [if_neg (by simpa using hx), hb]
     unfold Agree; simp [none0]
    ·rw [if_neg hx] at hb
     rw [if_pos (by simpa using hx)]
     unfold Agree
     simp only
     rw [if_neg hx]
     exact hb
   ·rw [if_pos (by simpa using hw)]
    have he := sign_no ts hq hw
    have hes : (sign ts 61 ⟨i + 1, none⟩).err.isSome = true := by rw [he]; rfl
    rw [stuck_of ts hes (by decide)]
    unfold Agree
    simp only
    rw [if_neg hw]
    exact he
  ·rw [if_neg c2, if_neg (show ¬ (f.key = [] ∧ isAt ts i 1 bKey = true) from fun e => c2 ⟨e.2, List.length_eq_zero_iff.2 e.1⟩)]
   unfold Agree; simp [bad, fail_at]
end Go.Proofs.YtpcfdngnmigkfaaGreatDoor.Sy
namespace Go.Proofs.YtpcfdngnmigkfaaGreatDoor.Sy
open Lx (Bs Tok)
open Sx
variable (ts : List Tok)
theorem want_next {i : Nat} {t : Bs} (h : (want ts i [t]).2.2 = 0) : (want ts i [t]).1 = i + 1 := by
 unfold want at h ⊢
 split
 ·rfl
 ·rename_i h2; rw [if_neg h2] at h; cases h
theorem option1_next {f : Fld} {i : Nat} (h : (option1 ts f i).2.2.2 = 0) : i < (option1 ts f i).2.1 := by
 unfold option1 at h ⊢
 dsimp only at h ⊢
 split at h
 ·rename_i c1
  rw [if_pos c1]
  split at h
  ·rename_i c2; exact absurd h c2
  ·rename_i c2
   rw [if_neg c2]
   have hw := want_next ts (i := i + 1) (t := [61]) (by simpa using c2)
   rw [hw] at h ⊢
   split at h
   ·rename_i c3; rw [if_pos c3]; show i < i + 1 + 1 + 1; omega
   ·rename_i c3
    rw [if_neg c3]
    split at h
    ·rename_i c4; rw [if_pos c4]; show i < i + 1 + 1 + 1; omega
    ·cases h
 ·rename_i c1
  rw [if_neg c1]
  split at h
  ·rename_i c2
   rw [if_pos c2]
   split at h
   ·rename_i c3; exact absurd h c3
   ·rename_i c3
    rw [if_neg c3]
    have hw := want_next ts (i := i + 1) (t := [61]) (by simpa using c3)
    rw [hw] at h ⊢
    split at h
    ·rename_i c4; exact absurd h c4
    ·rename_i c4
     rw [if_neg c4]
     show i < (name ts (i + 1 + 1)).2.1
     rw [name_next ts (by simpa using c4)]; omega
  ·cases h
theorem isAt_lt {i k : Nat} {t : Bs} (h : isAt ts i k t = true) : i < ts.length := by
 unfold isAt at h
 cases hg : ts[i]? with
 | none => rw [hg] at h; cases h
 | some x => exact (List.getElem?_eq_some_iff.1 hg).1
theorem optionsL_agree : ∀ (n m : Nat) (f : Fld) (i : Nat), 1 ≤ n → ts.length ≤ n + i → ts.length ≤ m + i →
  Agree ts (optionsL ts n f i) ((Sx.options ts m (option ts f ⟨i + 1, none⟩).1 (option ts f ⟨i + 1, none⟩).2).1, sign ts 93 (Sx.options ts m (option ts f ⟨i + 1, none⟩).1 (option ts f ⟨i + 1, none⟩).2).2)
 | 0, m, f, i, h1, _, _ => absurd h1 (by decide)
 | n + 1, m, f, i, h1, h2, h3 => by
  have ha := option_agree ts f (i + 1)
  rw [optionsL]
  unfold Agree at ha
  by_cases hb : (option1 ts f (i + 1)).2.2.2 = 0
  ·rw [if_pos hb] at ha
   have hj := option1_next ts hb
   rw [if_neg (by simpa using hb), ha]
   generalize option1 ts f (i + 1) = r at *
   obtain ⟨g, j, st⟩ := r
   simp only at hb hj ⊢
   have hs := isAt_sees ts j 4 [44] (by simp) (by decide)
   by_cases hd : isAt ts j 4 [44] = true
   ·rw [if_pos hd]
    have hs2 : sees ts 4 [44] ⟨j, none⟩ = true := by rw [← hs]; exact hd
    have hlt := isAt_lt ts hd
    obtain ⟨k, rfl⟩ : ∃ k, m = k + 1 := ⟨m - 1, by omega⟩
    rw [Sx.options, if_pos hs2]
    exact optionsL_agree n k g j (by omega) (by omega) (by omega)
   ·rw [if_neg hd]
    have hs2 : sees ts 4 [44] ⟨j, none⟩ = false := by rw [← hs]; simpa using hd
    have e : Sx.options ts m g ⟨j, none⟩ = (g, ⟨j, none⟩) := by
     cases m with
     | zero => rfl
     | succ m => rw [Sx.options, if_neg (by rw [hs2]; decide)]
    rw [e]
    have hq : ¬ ((97 : UInt8) ≤ 93 ∧ (93 : UInt8) ≤ 122) := by decide
    unfold Agree
    by_cases hw : (want ts j [[93]]).2.2 = 0
    ·rw [if_pos hw, sign_ok ts hq hw]
    ·rw [if_neg hw]; exact sign_no ts hq hw
  ·rw [if_neg hb] at ha
   rw [if_pos (by simpa using hb)]
   have hes : (option ts f ⟨i + 1, none⟩).2.err.isSome = true := by rw [ha]; rfl
   unfold Agree
   rw [if_neg hb, stuck_options ts hes, stuck_sign ts hes]
   exact ha
end Go.Proofs.YtpcfdngnmigkfaaGreatDoor.Sy
namespace Go.Proofs.YtpcfdngnmigkfaaGreatDoor.Sy
open Lx (Bs Tok)
open Sx
variable (ts : List Tok)
theorem options_agree (f : Fld) (i : Nat) : Agree ts (Sy.options ts f i) ((restO ts f ⟨i, none⟩).1, sign ts 59 (restO ts f ⟨i, none⟩).2) := by
 have hs := isAt_sees ts i 4 [91] (by simp) (by decide)
 have hq : ¬ ((97 : UInt8) ≤ 59 ∧ (59 : UInt8) ≤ 122) := by decide
 unfold Sy.options restO
 dsimp only
 rw [← hs]
 have key : ∀ (r : Fld × Nat × Stop) (x : Fld × St), Agree ts r x → Agree ts (if r.2.2.2 ≠ 0 then r else (r.1, (want ts r.2.1 [[59]]).1, (want ts r.2.1 [[59]]).2)) (x.1, sign ts 59 x.2) := by
  intro r x h
  unfold Agree at h
  by_cases hr : r.2.2.2 = 0
  ·rw [if_pos hr] at h
   rw [if_neg (by simpa using hr), h]
   unfold Agree
   dsimp only
   by_cases hw : (want ts r.2.1 [[59]]).2.2 = 0
   ·rw [if_pos hw, sign_ok ts hq hw]
   ·rw [if_neg hw]; exact sign_no ts hq hw
  ·rw [if_neg hr] at h
   rw [if_pos (by simpa using hr), stuck_sign ts (by rw [h]; rfl)]
   unfold Agree
   rw [if_neg hr]
   exact h
 by_cases c : isAt ts i 4 [91] = true
 ·rw [if_pos c, if_pos c]
  exact key _ _ (optionsL_agree ts (ts.length + 1) (ts.length + 1) f i (by omega) (by omega) (by omega))
 ·rw [if_neg c, if_neg c]
  exact key (f, i, none0) (f, ⟨i, none⟩) (by unfold Agree; simp [none0])
theorem rest_stuck2 {f : Fld} {s : St} {x : Nat × Nat × Nat} (h : (restN ts f s).2.err = some x) : (Sx.rest ts f s).2.err = some x := by
 unfold Sx.rest
 dsimp only
 have hs : (restN ts f s).2.err.isSome = true := by rw [h]; rfl
 rw [stuck_restO ts hs, stuck_sign ts hs]
 exact h
theorem rest_agree (f : Fld) (i : Nat) : Agree ts (Sy.rest ts f i) (Sx.rest ts f ⟨i, none⟩) := by
 have hq : ¬ ((97 : UInt8) ≤ 61 ∧ (61 : UInt8) ≤ 122) := by decide
 have ha := name_agree ts i
 unfold Sy.rest
 dsimp only
 unfold Agree at ha
 by_cases h1 : (name ts i).2.2.2 = 0
 ·rw [if_pos h1] at ha
  rw [if_neg (by simpa using h1)]
  by_cases h2 : (want ts (name ts i).2.1 [[61]]).2.2 = 0
  ·rw [if_neg (by simpa using h2)]
   have hn := number_agree ts (want ts (name ts i).2.1 [[61]]).1
   unfold Agree at hn
   have hN : restN ts f ⟨i, none⟩ = ({ f with name := (name ts i).1.text, line := (name ts i).1.line, col := (name ts i).1.col, number := (of ts 2 ⟨(want ts (name ts i).2.1 [[61]]).1, none⟩).1.num }, (of ts 2 ⟨(want ts (name ts i).2.1 [[61]]).1, none⟩).2) := by
    unfold restN; rw [ha]; dsimp only; rw [sign_ok ts hq h2]
   by_cases h3 : (number ts (want ts (name ts i).2.1 [[61]]).1).2.2.2 = 0
   ·rw [if_pos h3] at hn
    rw [if_neg (by simpa using h3)]
    obtain ⟨hn1, hn2⟩ := Prod.mk.inj hn
    rw [hn1, hn2] at hN
    have ho := options_agree ts { f with name := (name ts i).1.text, line := (name ts i).1.line, col := (name ts i).1.col, number := (number ts (want ts (name ts i).2.1 [[61]]).1).1 } (number ts (want ts (name ts i).2.1 [[61]]).1).2.1
    unfold Sx.rest
    rw [hN]
    exact ho
   ·rw [if_neg h3] at hn
    rw [if_pos (by simpa using h3)]
    unfold Agree
    dsimp only
    rw [if_neg h3]
    exact rest_stuck2 ts (by rw [hN]; exact hn)
  ·rw [if_pos (by simpa using h2)]
   have he := sign_no ts hq h2
   unfold Agree
   dsimp only
   rw [if_neg h2]
   refine rest_stuck2 ts ?_
   unfold restN
   rw [ha]
   dsimp only
   rw [stuck_of ts (by rw [he]; rfl) (by decide)]
   exact he
 ·rw [if_neg h1] at ha
  rw [if_pos (by simpa using h1)]
  have hes : (of ts 1 ⟨i, none⟩).2.err.isSome = true := by rw [ha]; rfl
  unfold Agree
  dsimp only
  rw [if_neg h1]
  refine rest_stuck2 ts ?_
  unfold restN
  dsimp only
  rw [stuck_sign ts hes, stuck_of ts hes (by decide)]
  exact ha
theorem field_agree (i a b : Nat) : Agree ts (Sy.field ts i a b) (Sx.field ts a b ⟨i, none⟩) := by
 have ht := typ_agree ts i
 unfold Sy.field Sx.field
 dsimp only
 unfold Agree at ht
 by_cases h : (dotted ts i true).2.2.2 = 0
 ·rw [if_pos h] at ht
  rw [if_neg (by simpa using h), ht]
  exact rest_agree ts _ _
 ·rw [if_neg h] at ht
  rw [if_pos (by simpa using h)]
  unfold Agree
  dsimp only
  rw [if_neg h, stuck_rest ts (by rw [ht]; rfl)]
  exact ht
end Go.Proofs.YtpcfdngnmigkfaaGreatDoor.Sy
namespace Go.Proofs.YtpcfdngnmigkfaaGreatDoor.Sy
open Lx (Bs Tok)
open Sx
variable (ts : List Tok)
theorem mapped_stuck {s : St} {x : Nat × Nat × Nat} (h : (sign ts 62 (typ ts (mapK ts s).2).2).err = some x) : (Sx.mapped ts s).2.err = some x := by
 unfold Sx.mapped
 rw [stuck_rest ts (by rw [h]; rfl)]
 exact h
theorem mapK_stuck {s : St} {x : Nat × Nat × Nat} (h : (mapK ts s).2.err = some x) : (Sx.mapped ts s).2.err = some x := by
 have hs : (mapK ts s).2.err.isSome = true := by rw [h]; rfl
 refine mapped_stuck ts ?_
 rw [stuck_typ ts hs]
 dsimp only
 rw [stuck_sign ts hs]
 exact h
theorem mapped_agree (i : Nat) : Agree ts (Sy.mapped ts i) (Sx.mapped ts ⟨i, none⟩) := by
 have q60 : ¬ ((97 : UInt8) ≤ 60 ∧ (60 : UInt8) ≤ 122) := by decide
 have q44 : ¬ ((97 : UInt8) ≤ 44 ∧ (44 : UInt8) ≤ 122) := by decide
 have q62 : ¬ ((97 : UInt8) ≤ 62 ∧ (62 : UInt8) ≤ 122) := by decide
 unfold Sy.mapped
 dsimp only
 by_cases w1 : (want ts i [[60]]).2.2 = 0
 ·rw [if_neg (by simpa using w1)]
  have hb := name_agree ts (want ts i [[60]]).1
  unfold Agree at hb
  by_cases h2 : (name ts (want ts i [[60]]).1).2.2.2 = 0
  ·rw [if_pos h2] at hb
   rw [if_neg (by simpa using h2)]
   by_cases w3 : (want ts (name ts (want ts i [[60]]).1).2.1 [[44]]).2.2 = 0
   ·rw [if_neg (by simpa using w3)]
    have hK : mapK ts ⟨i, none⟩ = ((name ts (want ts i [[60]]).1).1.text, ⟨(want ts (name ts (want ts i [[60]]).1).2.1 [[44]]).1, none⟩) := by
     unfold mapK; rw [sign_ok ts q60 w1, hb]; dsimp only; rw [sign_ok ts q44 w3]
    have ht := typ_agree ts (want ts (name ts (want ts i [[60]]).1).2.1 [[44]]).1
    unfold Agree at ht
    by_cases h4 : (dotted ts (want ts (name ts (want ts i [[60]]).1).2.1 [[44]]).1 true).2.2.2 = 0
    ·rw [if_pos h4] at ht
     rw [if_neg (by simpa using h4)]
     by_cases w5 : (want ts (dotted ts (want ts (name ts (want ts i [[60]]).1).2.1 [[44]]).1 true).2.1 [[62]]).2.2 = 0
     ·rw [if_neg (by simpa using w5)]
      unfold Sx.mapped
      rw [hK]
      dsimp only
      rw [ht]
      dsimp only
      rw [sign_ok ts q62 w5]
      exact rest_agree ts _ _
     ·rw [if_pos (by simpa using w5)]
      unfold Agree
      dsimp only
      rw [if_neg w5]
      refine mapped_stuck ts ?_
      rw [hK]
      dsimp only
      rw [ht]
      exact sign_no ts q62 w5
    ·rw [if_neg h4] at ht
     rw [if_pos (by simpa using h4)]
     unfold Agree
     dsimp only
     rw [if_neg h4]
     refine mapped_stuck ts ?_
     rw [hK]
     dsimp only
     rw [stuck_sign ts (by rw [ht]; rfl)]
     exact ht
   ·rw [if_pos (by simpa using w3)]
    unfold Agree
    dsimp only
    rw [if_neg w3]
    refine mapK_stuck ts ?_
    unfold mapK
    rw [sign_ok ts q60 w1, hb]
    exact sign_no ts q44 w3
  ·rw [if_neg h2] at hb
   rw [if_pos (by simpa using h2)]
   unfold Agree
   dsimp only
   rw [if_neg h2]
   refine mapK_stuck ts ?_
   unfold mapK
   rw [sign_ok ts q60 w1]
   dsimp only
   rw [stuck_sign ts (by rw [hb]; rfl)]
   exact hb
 ·rw [if_pos (by simpa using w1)]
  have he := sign_no ts q60 w1
  have hes : (sign ts 60 ⟨i, none⟩).err.isSome = true := by rw [he]; rfl
  unfold Agree
  dsimp only
  rw [if_neg w1]
  refine mapK_stuck ts ?_
  unfold mapK
  dsimp only
  rw [stuck_of ts hes (by decide)]
  dsimp only
  rw [stuck_sign ts hes]
  exact he
end Go.Proofs.YtpcfdngnmigkfaaGreatDoor.Sy
namespace Go.Proofs.YtpcfdngnmigkfaaGreatDoor.Sy
open Lx (Bs Tok)
open Sx
variable (ts : List Tok)
theorem semis_at : ∀ (n i : Nat), semis ts n ⟨i, none⟩ = ⟨semisL ts n i, none⟩
 | 0, i => rfl
 | n + 1, i => by
  rw [semis, semisL, ← isAt_sees ts i 4 [59] (by simp) (by decide)]
  split
  ·exact semis_at n (i + 1)
  ·rfl
theorem more_at (i : Nat) : more ts ⟨i, none⟩ = if isAt ts (semisL ts (ts.length + 1) i) 4 [125] then (false, ⟨semisL ts (ts.length + 1) i + 1, none⟩) else (true, ⟨semisL ts (ts.length + 1) i, none⟩) := by
 unfold more
 rw [semis_at, ← isAt_sees ts _ 4 [125] (by simp) (by decide)]
 rw [if_neg (by simp)]
 rfl
theorem head_agree (i : Nat) : Agree ts (Sy.head ts i) ((of ts 1 ⟨i, none⟩).1, sign ts 123 (of ts 1 ⟨i, none⟩).2) := by
 have hq : ¬ ((97 : UInt8) ≤ 123 ∧ (123 : UInt8) ≤ 122) := by decide
 have ha := name_agree ts i
 unfold Sy.head
 dsimp only
 unfold Agree at ha
 by_cases h : (name ts i).2.2.2 = 0
 ·rw [if_pos h] at ha
  rw [if_neg (by simpa using h), ha]
  unfold Agree
  dsimp only
  by_cases hw : (want ts (name ts i).2.1 [[123]]).2.2 = 0
  ·rw [if_pos hw, sign_ok ts hq hw]
  ·rw [if_neg hw]; exact sign_no ts hq hw
 ·rw [if_neg h] at ha
  rw [if_pos (by simpa using h), stuck_sign ts (by rw [ha]; rfl)]
  unfold Agree
  rw [if_neg h]
  exact ha
end Go.Proofs.YtpcfdngnmigkfaaGreatDoor.Sy
namespace Go.Proofs.YtpcfdngnmigkfaaGreatDoor.Sy
open Lx (Bs Tok)
open Sx
variable (ts : List Tok)
theorem bind_agree {α β : Type} {r : α × Nat × Stop} {f : α × St} (h : Agree ts r f) (b0 : β) {g : β × Nat × Stop} {k : β × St} (hk : r.2.2.2 = 0 → f = (r.1, ⟨r.2.1, none⟩) → Agree ts g k) (hs : f.2.err.isSome = true → k.2 = f.2) :
  Agree ts (if r.2.2.2 ≠ 0 then (b0, r.2.1, r.2.2) else g) k := by
 unfold Agree at h
 by_cases hr : r.2.2.2 = 0
 ·rw [if_pos hr] at h
  rw [if_neg (by simpa using hr)]
  exact hk hr h
 ·rw [if_neg hr] at h
  rw [if_pos hr]
  unfold Agree
  rw [if_neg hr, hs (by rw [h]; rfl)]
  exact h
theorem bind_sign {β : Type} {i : Nat} {b : UInt8} (hb : ¬ (97 ≤ b ∧ b ≤ 122)) (b0 : β) {g : β × Nat × Stop} {k : β × St} (hk : (want ts i [[b]]).2.2 = 0 → sign ts b ⟨i, none⟩ = ⟨(want ts i [[b]]).1, none⟩ → Agree ts g k) (hs : (sign ts b ⟨i, none⟩).err.isSome = true → k.2 = sign ts b ⟨i, none⟩) :
  Agree ts (if (want ts i [[b]]).2.2 ≠ 0 then (b0, (want ts i [[b]]).1, (want ts i [[b]]).2) else g) k :=
 bind_agree ts (sign_agree ts i b hb) b0 (fun h1 h2 => hk h1 (Prod.mk.inj h2).2) hs
theorem end_sign {β : Type} {i : Nat} {b : UInt8} (hb : ¬ (97 ≤ b ∧ b ≤ 122)) (x : β) : Agree ts (x, (want ts i [[b]]).1, (want ts i [[b]]).2) (x, sign ts b ⟨i, none⟩) := by
 unfold Agree
 dsimp only
 by_cases hw : (want ts i [[b]]).2.2 = 0
 ·rw [if_pos hw, sign_ok ts hb hw]
 ·rw [if_neg hw]; exact sign_no ts hb hw
theorem number_next {i : Nat} (h : (number ts i).2.2.2 = 0) : (number ts i).2.1 = i + 1 := by
 unfold number at h ⊢
 split
 ·rfl
 ·rename_i h2; rw [if_neg h2] at h; cases h
theorem stuck_takes {s : St} (h : s.err.isSome = true) {k : Nat} (hk : k ≠ 0) (t : Bs) : takes ts k t s = (false, s) := by
 unfold takes; rw [stuck_sees ts h hk, if_neg (by decide)]
def zVal : Val := ⟨[], 0, 0, 0⟩
def skipAt (i : Nat) (b : UInt8) : Nat := if isAt ts i 4 [b] then i + 1 else i
def valueR (i : Nat) : Val × Nat × Stop :=
 if (name ts i).2.2.2 ≠ 0 then (zVal, (name ts i).2.1, (name ts i).2.2)
 else if (want ts (name ts i).2.1 [[61]]).2.2 ≠ 0 then (zVal, (want ts (name ts i).2.1 [[61]]).1, (want ts (name ts i).2.1 [[61]]).2)
 else if (number ts (skipAt ts (want ts (name ts i).2.1 [[61]]).1 45)).2.2.2 ≠ 0 then (zVal, (number ts (skipAt ts (want ts (name ts i).2.1 [[61]]).1 45)).2.1, (number ts (skipAt ts (want ts (name ts i).2.1 [[61]]).1 45)).2.2)
 else (⟨(name ts i).1.text, if isAt ts (want ts (name ts i).2.1 [[61]]).1 4 [45] then -((number ts (skipAt ts (want ts (name ts i).2.1 [[61]]).1 45)).1 : Int) else (number ts (skipAt ts (want ts (name ts i).2.1 [[61]]).1 45)).1, (name ts i).1.line, (name ts i).1.col⟩,
  want ts (number ts (skipAt ts (want ts (name ts i).2.1 [[61]]).1 45)).2.1 [[59]])
theorem value_agree (i : Nat) : Agree ts (valueR ts i) (value ts ⟨i, none⟩) := by
 have q61 : ¬ ((97 : UInt8) ≤ 61 ∧ (61 : UInt8) ≤ 122) := by decide
 have q59 : ¬ ((97 : UInt8) ≤ 59 ∧ (59 : UInt8) ≤ 122) := by decide
 unfold valueR value
 dsimp only
 refine bind_agree ts (name_agree ts i) zVal (fun h1 e1 => ?_) (fun hs => ?_)
 ·rw [e1]
  dsimp only
  refine bind_sign ts q61 zVal (fun h2 e2 => ?_) (fun hs => ?_)
  ·rw [e2]
   generalize (want ts (name ts i).2.1 [[61]]).1 = j
   have ht : takes ts 4 [45] ⟨j, none⟩ = (isAt ts j 4 [45], ⟨skipAt ts j 45, none⟩) := by
    unfold takes skipAt
    rw [← isAt_sees ts j 4 [45] (by simp) (by decide)]
    cases h : isAt ts j 4 [45] <;> rfl
   rw [ht]
   refine bind_agree ts (number_agree ts (skipAt ts j 45)) zVal (fun h3 e3 => ?_) (fun hs => ?_)
   ·obtain ⟨e4, e5⟩ := Prod.mk.inj e3
    rw [e4, e5]
    exact end_sign ts q59 _
   ·exact stuck_sign ts hs 59
  ·rw [stuck_takes ts hs (by decide)]
   dsimp only
   rw [stuck_of ts hs (by decide), stuck_sign ts hs]
 ·rw [stuck_sign ts hs, stuck_takes ts hs (by decide)]
  dsimp only
  rw [stuck_of ts hs (by decide), stuck_sign ts hs]
theorem skipAt_ge (i : Nat) (b : UInt8) : i ≤ skipAt ts i b := by unfold skipAt; split <;> omega
theorem value_next {i : Nat} (h : (valueR ts i).2.2.2 = 0) : i < (valueR ts i).2.1 := by
 unfold valueR at h ⊢
 split at h
 ·rename_i c1; exact absurd h c1
 ·rename_i c1
  rw [if_neg c1]
  split at h
  ·rename_i c2; exact absurd h c2
  ·rename_i c2
   rw [if_neg c2]
   split at h
   ·rename_i c3; exact absurd h c3
   ·rename_i c3
    rw [if_neg c3]
    show i < (want ts _ [[59]]).1
    rw [want_next ts h, number_next ts (by simpa using c3)]
    have h1 := name_next ts (show (name ts i).2.2.2 = 0 by simpa using c1)
    have h2 := want_next ts (i := (name ts i).2.1) (t := [61]) (by simpa using c2)
    have h3 := skipAt_ge ts (want ts (name ts i).2.1 [[61]]).1 45
    omega
theorem value_lt {i : Nat} (h : (valueR ts i).2.2.2 = 0) : i < ts.length := by
 unfold valueR at h
 split at h
 ·rename_i c1; exact absurd h c1
 ·rename_i c1
  have h0 : (name ts i).2.2.2 = 0 := by simpa using c1
  unfold name at h0
  split at h0
  ·rename_i h1; exact isAt_lt ts h1
  ·cases h0
theorem semisL_ge : ∀ (n i : Nat), i ≤ semisL ts n i
 | 0, i => Nat.le_refl _
 | n + 1, i => by
  rw [semisL]
  split
  ·have := semisL_ge n (i + 1); omega
  ·exact Nat.le_refl _
def onAt (i : Nat) : Nat := semisL ts (ts.length + 1) i
theorem onAt_ge (i : Nat) : i ≤ onAt ts i := semisL_ge ts _ i
theorem more_on (i : Nat) : more ts ⟨i, none⟩ = if isAt ts (onAt ts i) 4 [125] then (false, ⟨onAt ts i + 1, none⟩) else (true, ⟨onAt ts i, none⟩) := more_at ts i
def valuesL : Nat → List Val → Nat → List Val × Nat × Stop
 | 0, l, i => (l, i, none0)
 | n + 1, l, i =>
  if isAt ts (onAt ts i) 4 [125] then (if l = [] then (l, onAt ts i, bad (onAt ts i)) else (l, onAt ts i + 1, none0))
  else if (valueR ts (onAt ts i)).2.2.2 ≠ 0 then (l, (valueR ts (onAt ts i)).2.1, (valueR ts (onAt ts i)).2.2)
  else valuesL n (l ++ [(valueR ts (onAt ts i)).1]) (valueR ts (onAt ts i)).2.1
theorem early_at (i : Nat) : (fail ts (St.back ⟨i + 1, none⟩)).err = some (9, ((ts[i]?).getD zTok).line, ((ts[i]?).getD zTok).col) := fail_at ts i
theorem agree_ok {α : Type} (x : α) (i : Nat) : Agree ts (x, i, none0) (x, ⟨i, none⟩) := by
 unfold Agree
 rw [if_pos (show (x, i, none0).2.2.2 = 0 from rfl)]
theorem early_none (b : Bool) (i : Nat) : Sx.early ts b ⟨i, none⟩ = if b then ⟨i, none⟩ else fail ts (St.back ⟨i, none⟩) := rfl
theorem values_agree : ∀ (n m : Nat) (l : List Val) (i : Nat), 1 ≤ n → 1 ≤ m → ts.length + 1 ≤ n + i → ts.length + 1 ≤ m + i →
  Agree ts (valuesL ts n l i) ((values ts m l ⟨i, none⟩).1, Sx.early ts (decide ((values ts m l ⟨i, none⟩).1 ≠ [])) (values ts m l ⟨i, none⟩).2)
 | 0, m, l, i, h1, _, _, _ => absurd h1 (by decide)
 | n + 1, 0, l, i, _, h1, _, _ => absurd h1 (by decide)
 | n + 1, m + 1, l, i, _, _, h2, h3 => by
  rw [valuesL, values, more_on]
  by_cases c : isAt ts (onAt ts i) 4 [125] = true
  ·rw [if_pos c, if_pos c, if_neg (show ¬ (false = true) by decide)]
   dsimp only
   rw [early_none]
   by_cases hl : l = []
   ·rw [if_pos hl, if_neg (by simp [hl])]
    unfold Agree
    rw [if_neg (by simp [bad])]
    exact early_at ts _
   ·rw [if_neg hl, if_pos (by simpa using hl)]
    exact agree_ok ts _ _
  ·rw [if_neg c, if_neg c, if_pos rfl]
   dsimp only
   have hge := onAt_ge ts i
   refine bind_agree ts (value_agree ts (onAt ts i)) l (fun h1 e1 => ?_) (fun hs => ?_)
   ·rw [e1]
    dsimp only
    have hn := value_next ts h1
    have hl := value_lt ts h1
    exact values_agree n m _ _ (by omega) (by omega) (by omega) (by omega)
   ·rw [stuck_values ts hs]
    exact stuck_early ts hs _
def zEnm : Enm := ⟨[], [], 0, 0⟩
def enumR (i : Nat) : Enm × Nat × Stop :=
 if (Sy.head ts i).2.2.2 ≠ 0 then (zEnm, (Sy.head ts i).2.1, (Sy.head ts i).2.2)
 else (⟨(Sy.head ts i).1.text, (valuesL ts (ts.length + 2) [] (Sy.head ts i).2.1).1, (Sy.head ts i).1.line, (Sy.head ts i).1.col⟩, (valuesL ts (ts.length + 2) [] (Sy.head ts i).2.1).2)
theorem Agree.map {α β : Type} {r : α × Nat × Stop} {f : α × St} (g : α → β) (h : Agree ts r f) : Agree ts (g r.1, r.2) (g f.1, f.2) := by
 unfold Agree at h ⊢
 dsimp only
 split
 ·rename_i c; rw [if_pos c] at h; rw [h]
 ·rename_i c; rw [if_neg c] at h; exact h
theorem enum_agree (i : Nat) : Agree ts (enumR ts i) (enum ts ⟨i, none⟩) := by
 unfold enumR enum
 dsimp only
 refine bind_agree ts (head_agree ts i) zEnm (fun h1 e1 => ?_) (fun hs => ?_)
 ·obtain ⟨e2, e3⟩ := Prod.mk.inj e1
  rw [e3, e2]
  exact Agree.map ts (fun l => (⟨(Sy.head ts i).1.text, l, (Sy.head ts i).1.line, (Sy.head ts i).1.col⟩ : Enm)) (values_agree ts (ts.length + 2) (ts.length + 2) [] (Sy.head ts i).2.1 (by omega) (by omega) (by omega) (by omega))
 ·dsimp only at hs ⊢
  rw [stuck_values ts hs]
  exact stuck_early ts hs _
end Go.Proofs.YtpcfdngnmigkfaaGreatDoor.Sy
namespace Go.Proofs.YtpcfdngnmigkfaaGreatDoor.Sy
open Lx (Bs Tok)
open Sx
variable (ts : List Tok)
theorem Agree.next {α : Type} {r : α × Nat × Stop} {f : α × St} {i : Nat} (h : Agree ts r f) (g : GoesN 1 ⟨i, none⟩ f.2) (h0 : r.2.2.2 = 0) : i < r.2.1 := by
 unfold Agree at h
 rw [if_pos h0] at h
 have h1 := g (by rw [h])
 rw [h] at h1
 exact h1.2
theorem field_next {i a b : Nat} (h : (Sy.field ts i a b).2.2.2 = 0) : i < (Sy.field ts i a b).2.1 := (field_agree ts i a b).next ts (field_go ts a b _) h
theorem dottedL_lt {n : Nat} {s : Bs} {i : Nat} (h1 : 1 ≤ n) (h : (dottedL ts n s i).2.2.2 = 0) : i < ts.length := by
 obtain ⟨k, rfl⟩ : ∃ k, n = k + 1 := ⟨n - 1, by omega⟩
 rw [dottedL] at h
 by_cases c : (name ts i).2.2.2 = 0
 ·unfold name at c
  split at c
  ·rename_i h2; exact isAt_lt ts h2
  ·cases c
 ·rw [if_pos c] at h; exact absurd h c
theorem dotted_lt {i : Nat} {b : Bool} (h : (Sy.dotted ts i b).2.2.2 = 0) : i < ts.length := by
 unfold Sy.dotted at h
 split at h
 ·rename_i c; exact isAt_lt ts c.2
 ·exact dottedL_lt ts (by omega) h
theorem field_lt {i a b : Nat} (h : (Sy.field ts i a b).2.2.2 = 0) : i < ts.length := by
 unfold Sy.field at h
 dsimp only at h
 by_cases c : (Sy.dotted ts i true).2.2.2 = 0
 ·exact dotted_lt ts c
 ·rw [if_pos c] at h; exact absurd h c
def fieldsL : Nat → Nat → List Fld → Nat → List Fld × Nat × Stop
 | 0, k, l, i => (l, i, none0)
 | n + 1, k, l, i =>
  if isAt ts (onAt ts i) 4 [125] then (if l = [] then (l, onAt ts i, bad (onAt ts i)) else (l, onAt ts i + 1, none0))
  else if (Sy.field ts (onAt ts i) 1 k).2.2.2 ≠ 0 then (l, (Sy.field ts (onAt ts i) 1 k).2.1, (Sy.field ts (onAt ts i) 1 k).2.2)
  else fieldsL n k (l ++ [(Sy.field ts (onAt ts i) 1 k).1]) (Sy.field ts (onAt ts i) 1 k).2.1
theorem fields_agree (fs : List Fld) : ∀ (n m k : Nat) (l : List Fld) (i : Nat), 1 ≤ n → 1 ≤ m → ts.length + 1 ≤ n + i → ts.length + 1 ≤ m + i →
  Agree ts (fs ++ (fieldsL ts n k l i).1, (fieldsL ts n k l i).2) ((oneofs ts m k (fs ++ l) ⟨i, none⟩).1, Sx.early ts (decide ((oneofs ts m k (fs ++ l) ⟨i, none⟩).1.length ≠ fs.length)) (oneofs ts m k (fs ++ l) ⟨i, none⟩).2)
 | 0, m, k, l, i, h1, _, _, _ => absurd h1 (by decide)
 | n + 1, 0, k, l, i, _, h1, _, _ => absurd h1 (by decide)
 | n + 1, m + 1, k, l, i, _, _, h2, h3 => by
  rw [fieldsL, oneofs, more_on]
  by_cases c : isAt ts (onAt ts i) 4 [125] = true
  ·rw [if_pos c, if_pos c, if_neg (show ¬ (false = true) by decide)]
   dsimp only
   rw [early_none]
   by_cases hl : l = []
   ·rw [if_pos hl, if_neg (by simp [hl])]
    unfold Agree
    rw [if_neg (by simp [bad])]
    exact early_at ts _
   ·rw [if_neg hl, if_pos (by
     refine decide_eq_true ?_
     rw [List.length_append]
     intro e
     exact hl (List.length_eq_zero_iff.1 (by omega)))]
    exact agree_ok ts _ _
  ·rw [if_neg c, if_neg c, if_pos rfl]
   dsimp only
   have hge := onAt_ge ts i
   by_cases h1 : (Sy.field ts (onAt ts i) 1 k).2.2.2 = 0
   ·have ha := field_agree ts (onAt ts i) 1 k
    unfold Agree at ha
    rw [if_pos h1] at ha
    rw [if_neg (by simpa using h1), ha]
    dsimp only
    have hn := field_next ts h1
    have hl := field_lt ts h1
    rw [List.append_assoc]
    exact fields_agree fs n m k _ _ (by omega) (by omega) (by omega) (by omega)
   ·have ha := field_agree ts (onAt ts i) 1 k
    unfold Agree at ha
    rw [if_neg h1] at ha
    have hs : (Sx.field ts 1 k ⟨onAt ts i, none⟩).2.err.isSome = true := by rw [ha]; rfl
    rw [if_pos (by simpa using h1), stuck_oneofs ts hs, stuck_early ts hs]
    unfold Agree
    dsimp only
    rw [if_neg h1]
    exact ha
def oneofR (i which : Nat) : (Bs × List Fld) × Nat × Stop :=
 if (Sy.head ts i).2.2.2 ≠ 0 then (([], []), (Sy.head ts i).2.1, (Sy.head ts i).2.2)
 else (((Sy.head ts i).1.text, (fieldsL ts (ts.length + 2) which [] (Sy.head ts i).2.1).1), (fieldsL ts (ts.length + 2) which [] (Sy.head ts i).2.1).2)
def Msg.oneofed : Msg → Bs × List Fld → Msg
 | .mk nm fs os ms es rs ns li co, x => .mk nm (fs ++ x.2) (os ++ [x.1]) ms es rs ns li co
def Msg.noneofs : Msg → Nat
 | .mk nm fs os ms es rs ns li co => os.length
theorem oneof_agree (m : Msg) (i : Nat) : Agree ts (Msg.oneofed m (oneofR ts i (Msg.noneofs m + 1)).1, (oneofR ts i (Msg.noneofs m + 1)).2) (Sx.oneof ts m ⟨i, none⟩) := by
 obtain ⟨nm, fs, os, ms, es, rs, ns, li, co⟩ := m
 have ha := head_agree ts i
 unfold oneofR Sx.oneof
 dsimp only [Msg.noneofs]
 unfold Agree at ha
 by_cases h1 : (Sy.head ts i).2.2.2 = 0
 ·rw [if_pos h1] at ha
  obtain ⟨e2, e3⟩ := Prod.mk.inj ha
  rw [if_neg (by simpa using h1), e3, e2]
  have hf := fields_agree ts fs (ts.length + 2) (ts.length + 2) (os.length + 1) [] (Sy.head ts i).2.1 (by omega) (by omega) (by omega) (by omega)
  rw [List.append_nil] at hf
  exact Agree.map ts (fun l => Msg.mk nm l (os ++ [(Sy.head ts i).1.text]) ms es rs ns li co) hf
 ·rw [if_neg h1] at ha
  rw [if_pos (by simpa using h1)]
  have hs : (sign ts 123 (of ts 1 ⟨i, none⟩).2).err.isSome = true := by rw [ha]; rfl
  rw [stuck_oneofs ts hs, stuck_early ts hs]
  unfold Agree
  dsimp only
  rw [if_neg h1]
  exact ha
def namesL : Nat → List Bs → Nat → List Bs × Nat × Stop
 | 0, l, i => (l, i, none0)
 | n + 1, l, i =>
  if isAt ts i 3 [] then
   if isAt ts (i + 1) 4 [44] then namesL n (l ++ [((ts[i]?).getD zTok).text]) (i + 2) else (l ++ [((ts[i]?).getD zTok).text], want ts (i + 1) [[59]])
  else (l, i, bad i)
theorem of3 (i : Nat) : of ts 3 ⟨i, none⟩ = if isAt ts i 3 [] then ((ts[i]?).getD zTok, ⟨i + 1, none⟩) else (zTok, fail ts ⟨i, none⟩) := by
 unfold of
 have hp : peek ts ⟨i, none⟩ = (ts[i]?).getD zTok := by unfold peek; simp
 have hi : isAt ts i 3 [] = decide (((ts[i]?).getD zTok).kind = 3) := by
  unfold isAt
  cases hg : ts[i]? with
  | none => rfl
  | some x => simp
 rw [hp, hi]
 by_cases h : ((ts[i]?).getD zTok).kind = 3
 ·simp [h, St.next]
 ·simp [h]
theorem names_agree (p : List Bs) : ∀ (n m : Nat) (l : List Bs) (i : Nat), 1 ≤ n → 1 ≤ m → ts.length + 1 ≤ n + i → ts.length + 1 ≤ m + i →
  Agree ts (p ++ (namesL ts n l i).1, (namesL ts n l i).2) ((resNames ts m (p ++ l) ⟨i, none⟩).1, sign ts 59 (resNames ts m (p ++ l) ⟨i, none⟩).2)
 | 0, m, l, i, h1, _, _, _ => absurd h1 (by decide)
 | n + 1, 0, l, i, _, h1, _, _ => absurd h1 (by decide)
 | n + 1, m + 1, l, i, _, _, h2, h3 => by
  have q59 : ¬ ((97 : UInt8) ≤ 59 ∧ (59 : UInt8) ≤ 122) := by decide
  rw [namesL, resNames, of3]
  by_cases c : isAt ts i 3 [] = true
  ·rw [if_pos c, if_pos c]
   dsimp only
   have hl := isAt_lt ts c
   rw [← isAt_sees ts (i + 1) 4 [44] (by simp) (by decide)]
   by_cases d : isAt ts (i + 1) 4 [44] = true
   ·rw [if_pos d, if_pos d]
    have hl2 := isAt_lt ts d
    rw [List.append_assoc]
    exact names_agree p n m _ (i + 2) (by omega) (by omega) (by omega) (by omega)
   ·rw [if_neg d, if_neg d]
    dsimp only
    rw [List.append_assoc]
    exact end_sign ts q59 _
  ·rw [if_neg c, if_neg c]
   dsimp only
   have hs : (fail ts ⟨i, none⟩).err.isSome = true := by rw [fail_at]; rfl
   rw [stuck_sees ts hs (by decide), if_neg (by decide)]
   dsimp only
   rw [stuck_sign ts hs]
   unfold Agree
   rw [if_neg (by simp [bad])]
   exact fail_at ts i
def zRng : Rng := ⟨0, 0⟩
def rangeR (i : Nat) : Rng × Nat × Stop :=
 if (number ts i).2.2.2 ≠ 0 then (zRng, (number ts i).2.1, (number ts i).2.2)
 else if isAt ts (number ts i).2.1 1 bTo then
  if isAt ts ((number ts i).2.1 + 1) 1 bMax then (⟨(number ts i).1, 536870911⟩, (number ts i).2.1 + 2, none0)
  else if (number ts ((number ts i).2.1 + 1)).2.2.2 ≠ 0 then (zRng, (number ts ((number ts i).2.1 + 1)).2.1, (number ts ((number ts i).2.1 + 1)).2.2)
  else (⟨(number ts i).1, (number ts ((number ts i).2.1 + 1)).1⟩, (number ts ((number ts i).2.1 + 1)).2.1, none0)
 else (⟨(number ts i).1, (number ts i).1⟩, (number ts i).2.1, none0)
theorem range_agree (i : Nat) : Agree ts (rangeR ts i) (range ts ⟨i, none⟩) := by
 unfold rangeR range
 dsimp only
 refine bind_agree ts (number_agree ts i) zRng (fun h1 e1 => ?_) (fun hs => ?_)
 ·obtain ⟨e2, e3⟩ := Prod.mk.inj e1
  rw [e3, e2]
  generalize (number ts i).2.1 = j
  rw [isAt_sees ts j 1 bTo (by decide) (by decide)]
  by_cases c : sees ts 1 bTo ⟨j, none⟩ = true
  ·rw [if_pos c, if_pos c]
   have hm := isAt_sees ts (j + 1) 1 bMax (by decide) (by decide)
   rw [hm]
   show Agree ts _ (if sees ts 1 bMax ⟨j + 1, none⟩ = true then _ else _)
   by_cases d : sees ts 1 bMax ⟨j + 1, none⟩ = true
   ·rw [if_pos d, if_pos d]
    exact agree_ok ts _ _
   ·rw [if_neg d, if_neg d]
    refine bind_agree ts (number_agree ts (j + 1)) zRng (fun h3 e4 => ?_) (fun hs => rfl)
    obtain ⟨e5, e6⟩ := Prod.mk.inj e4
    show Agree ts _ (Rng.mk _ (of ts 2 ⟨j + 1, none⟩).1.num, (of ts 2 ⟨j + 1, none⟩).2)
    rw [e6, e5]
    exact agree_ok ts _ _
  ·rw [if_neg c, if_neg c]
   exact agree_ok ts _ _
 ·dsimp only at hs ⊢
  rw [stuck_sees ts hs (by decide), if_neg (by decide)]
theorem number_lt {i : Nat} (h : (number ts i).2.2.2 = 0) : i < ts.length := by
 unfold number at h
 split at h
 ·rename_i h2; exact isAt_lt ts h2
 ·cases h
theorem range_lt {i : Nat} (h : (rangeR ts i).2.2.2 = 0) : i < ts.length := by
 unfold rangeR at h
 by_cases c : (number ts i).2.2.2 = 0
 ·exact number_lt ts c
 ·rw [if_pos c] at h; exact absurd h c
theorem range_next {i : Nat} (h : (rangeR ts i).2.2.2 = 0) : i < (rangeR ts i).2.1 := (range_agree ts i).next ts (range_go ts _) h
def rangesL : Nat → List Rng → Nat → List Rng × Nat × Stop
 | 0, l, i => (l, i, none0)
 | n + 1, l, i =>
  if (rangeR ts i).2.2.2 ≠ 0 then (l, (rangeR ts i).2.1, (rangeR ts i).2.2)
  else if isAt ts (rangeR ts i).2.1 4 [44] then rangesL n (l ++ [(rangeR ts i).1]) ((rangeR ts i).2.1 + 1) else (l ++ [(rangeR ts i).1], want ts (rangeR ts i).2.1 [[59]])
theorem ranges_agree (p : List Rng) : ∀ (n m : Nat) (l : List Rng) (i : Nat), 1 ≤ n → 1 ≤ m → ts.length + 1 ≤ n + i → ts.length + 1 ≤ m + i →
  Agree ts (p ++ (rangesL ts n l i).1, (rangesL ts n l i).2) ((resRanges ts m (p ++ l) ⟨i, none⟩).1, sign ts 59 (resRanges ts m (p ++ l) ⟨i, none⟩).2)
 | 0, m, l, i, h1, _, _, _ => absurd h1 (by decide)
 | n + 1, 0, l, i, _, h1, _, _ => absurd h1 (by decide)
 | n + 1, m + 1, l, i, _, _, h2, h3 => by
  have q59 : ¬ ((97 : UInt8) ≤ 59 ∧ (59 : UInt8) ≤ 122) := by decide
  have ha := range_agree ts i
  rw [rangesL, resRanges]
  unfold Agree at ha
  by_cases h1 : (rangeR ts i).2.2.2 = 0
  ·rw [if_pos h1] at ha
   rw [if_neg (by simpa using h1), ha]
   dsimp only
   have hn := range_next ts h1
   have hl := range_lt ts h1
   rw [← isAt_sees ts (rangeR ts i).2.1 4 [44] (by simp) (by decide)]
   by_cases d : isAt ts (rangeR ts i).2.1 4 [44] = true
   ·rw [if_pos d, if_pos d]
    rw [List.append_assoc]
    have hl2 := isAt_lt ts d
    exact ranges_agree p n m _ _ (by omega) (by omega) (by omega) (by omega)
   ·rw [if_neg d, if_neg d]
    dsimp only
    rw [List.append_assoc]
    exact end_sign ts q59 _
  ·rw [if_neg h1] at ha
   have hs : (range ts ⟨i, none⟩).2.err.isSome = true := by rw [ha]; rfl
   rw [if_pos (by simpa using h1), stuck_sees ts hs (by decide), if_neg (by decide)]
   dsimp only
   rw [stuck_sign ts hs]
   unfold Agree
   dsimp only
   rw [if_neg h1]
   exact ha
def reservedR (i : Nat) : (List Rng × List Bs) × Nat × Stop :=
 if isAt ts i 3 [] then (([], (namesL ts (ts.length + 2) [] i).1), (namesL ts (ts.length + 2) [] i).2)
 else (((rangesL ts (ts.length + 2) [] i).1, []), (rangesL ts (ts.length + 2) [] i).2)
def Msg.reservedOf : Msg → List Rng × List Bs → Msg
 | .mk nm fs os ms es rs ns li co, x => .mk nm fs os ms es (rs ++ x.1) (ns ++ x.2) li co
theorem reserved_agree (m : Msg) (i : Nat) : Agree ts (Msg.reservedOf m (reservedR ts i).1, (reservedR ts i).2) (Sx.reserved ts m ⟨i, none⟩) := by
 obtain ⟨nm, fs, os, ms, es, rs, ns, li, co⟩ := m
 unfold reservedR Sx.reserved
 have hp : peek ts ⟨i, none⟩ = (ts[i]?).getD zTok := by unfold peek; simp
 have hi : isAt ts i 3 [] = decide (((ts[i]?).getD zTok).kind = 3) := by
  unfold isAt
  cases hg : ts[i]? with
  | none => rfl
  | some x => simp
 dsimp only
 rw [hp, hi]
 by_cases h : ((ts[i]?).getD zTok).kind = 3
 ·rw [if_pos (decide_eq_true h), if_pos h]
  have hf := names_agree ts ns (ts.length + 2) (ts.length + 2) [] i (by omega) (by omega) (by omega) (by omega)
  rw [List.append_nil] at hf
  have hm := Agree.map ts (fun l => Msg.mk nm fs os ms es rs l li co) hf
  simp only [Msg.reservedOf, List.append_nil]
  exact hm
 ·rw [if_neg (by simpa using h), if_neg h]
  have hf := ranges_agree ts rs (ts.length + 2) (ts.length + 2) [] i (by omega) (by omega) (by omega) (by omega)
  rw [List.append_nil] at hf
  have hm := Agree.map ts (fun l => Msg.mk nm fs os ms es l ns li co) hf
  simp only [Msg.reservedOf, List.append_nil]
  exact hm
end Go.Proofs.YtpcfdngnmigkfaaGreatDoor.Sy
namespace Go.Proofs.YtpcfdngnmigkfaaGreatDoor.Sy
open Lx (Bs Tok)
open Sx
variable (ts : List Tok)
def zMsg : Msg := .mk [] [] [] [] [] [] [] 0 0
def messageByR (B : Nat → Msg → Nat → Msg × Nat × Stop) (deep i : Nat) : Msg × Nat × Stop :=
 if (name ts i).2.2.2 ≠ 0 then (zMsg, (name ts i).2.1, (name ts i).2.2)
 else if 8 ≤ deep then (zMsg, i, (i, 8))
 else if (want ts (name ts i).2.1 [[123]]).2.2 ≠ 0 then (zMsg, (want ts (name ts i).2.1 [[123]]).1, (want ts (name ts i).2.1 [[123]]).2)
 else B deep (.mk (name ts i).1.text [] [] [] [] [] [] (name ts i).1.line (name ts i).1.col) (want ts (name ts i).2.1 [[123]]).1
def partR (B : Nat → Msg → Nat → Msg × Nat × Stop) (deep : Nat) (m : Msg) (i : Nat) : Msg × Nat × Stop :=
 if isAt ts i 1 bMessage then (m.addM (messageByR ts B (deep + 1) (i + 1)).1, (messageByR ts B (deep + 1) (i + 1)).2)
 else if isAt ts i 1 bEnum then (m.addE (enumR ts (i + 1)).1, (enumR ts (i + 1)).2)
 else if isAt ts i 1 bOneof then (Msg.oneofed m (oneofR ts (i + 1) (Msg.noneofs m + 1)).1, (oneofR ts (i + 1) (Msg.noneofs m + 1)).2)
 else if isAt ts i 1 bReserved then (Msg.reservedOf m (reservedR ts (i + 1)).1, (reservedR ts (i + 1)).2)
 else if isAt ts i 1 bRepeated then (m.addF (Sy.field ts (i + 1) 3 0).1, (Sy.field ts (i + 1) 3 0).2)
 else if isAt ts i 1 bOptional then (m.addF (Sy.field ts (i + 1) 2 0).1, (Sy.field ts (i + 1) 2 0).2)
 else if isAt ts i 1 bMap = true ∧ isAt ts (i + 1) 4 [60] = true then (m.addF (Sy.mapped ts (i + 1)).1, (Sy.mapped ts (i + 1)).2)
 else (m.addF (Sy.field ts i 1 0).1, (Sy.field ts i 1 0).2)
def partsL : Nat → Nat → Msg → Nat → Msg × Nat × Stop
 | 0, deep, m, i => (m, i, none0)
 | n + 1, deep, m, i =>
  if isAt ts (onAt ts i) 4 [125] then (m, onAt ts i + 1, none0)
  else if (partR ts (partsL n) deep m (onAt ts i)).2.2.2 ≠ 0 then (m, (partR ts (partsL n) deep m (onAt ts i)).2.1, (partR ts (partsL n) deep m (onAt ts i)).2.2)
  else partsL n deep (partR ts (partsL n) deep m (onAt ts i)).1 (partR ts (partsL n) deep m (onAt ts i)).2.1
def messageR (deep i : Nat) : Msg × Nat × Stop := messageByR ts (partsL ts (ts.length + 2)) deep i
section
variable {B : Nat → Msg → Nat → Msg × Nat × Stop} {B' : Nat → Msg → St → Msg × St} (hB : ∀ d m i, Agree ts (B d m i) (B' d m ⟨i, none⟩)) (hst : ∀ d m s, s.err.isSome = true → (B' d m s).2 = s)
include hB hst
theorem messageBy_agree (deep i : Nat) : Agree ts (messageByR ts B deep i) (messageBy ts B' deep ⟨i, none⟩) := by
 have q123 : ¬ ((97 : UInt8) ≤ 123 ∧ (123 : UInt8) ≤ 122) := by decide
 have hn := name_agree ts i
 unfold messageByR messageBy
 unfold Agree at hn
 by_cases h1 : (name ts i).2.2.2 = 0
 ·rw [if_pos h1] at hn
  have hnx := name_next ts h1
  rw [if_neg (by simpa using h1), hn]
  dsimp only
  by_cases hd : 8 ≤ deep
  ·rw [if_pos hd]
   have hdp : deepAt deep (name ts i).1 ⟨(name ts i).2.1, none⟩ = ⟨(name ts i).2.1, some (8, (name ts i).1.line, (name ts i).1.col)⟩ := by
    unfold deepAt; rw [if_neg (by simp), if_pos hd]
   rw [hdp, stuck_sign ts rfl]
   unfold Agree
   rw [if_neg (show ¬ (8 : Nat) = 0 by decide), hst _ _ _ rfl]
   have ht : (name ts i).1 = (ts[i]?).getD zTok := by
    unfold name at h1 ⊢
    split at h1
    ·rename_i c; rw [if_pos c]
    ·cases h1
   rw [ht]
  ·rw [if_neg hd]
   have hdp : deepAt deep (name ts i).1 ⟨(name ts i).2.1, none⟩ = ⟨(name ts i).2.1, none⟩ := by
    unfold deepAt; rw [if_neg (by simp), if_neg hd]
   rw [hdp]
   exact bind_sign ts q123 zMsg (fun h2 e2 => by rw [e2]; exact hB _ _ _) (fun hs => hst _ _ _ hs)
 ·rw [if_neg h1] at hn
  have hs : (of ts 1 ⟨i, none⟩).2.err.isSome = true := by rw [hn]; rfl
  rw [if_pos (by simpa using h1), stuck_deepAt hs, stuck_sign ts hs]
  unfold Agree
  dsimp only
  rw [if_neg h1, hst _ _ _ hs]
  exact hn
theorem part_agree (deep : Nat) (m : Msg) (i : Nat) : Agree ts (partR ts B deep m i) (Sx.part ts B' deep m ⟨i, none⟩) := by
 have nx : St.next ⟨i, none⟩ = ⟨i + 1, none⟩ := rfl
 unfold partR Sx.part
 rw [nx, ← isAt_sees ts i 1 bMessage (by decide) (by decide), ← isAt_sees ts i 1 bEnum (by decide) (by decide), ← isAt_sees ts i 1 bOneof (by decide) (by decide), ← isAt_sees ts i 1 bReserved (by decide) (by decide), ← isAt_sees ts i 1 bRepeated (by decide) (by decide), ← isAt_sees ts i 1 bOptional (by decide) (by decide), ← isAt_sees ts i 1 bMap (by decide) (by decide), ← isAt_sees ts (i + 1) 4 [60] (by decide) (by decide)]
 split
 ·exact Agree.map ts (fun k => m.addM k) (messageBy_agree ts hB hst (deep + 1) (i + 1))
 split
 ·exact Agree.map ts (fun k => m.addE k) (enum_agree ts (i + 1))
 split
 ·exact oneof_agree ts m (i + 1)
 split
 ·exact reserved_agree ts m (i + 1)
 split
 ·exact Agree.map ts (fun k => m.addF k) (field_agree ts (i + 1) 3 0)
 split
 ·exact Agree.map ts (fun k => m.addF k) (field_agree ts (i + 1) 2 0)
 split
 ·exact Agree.map ts (fun k => m.addF k) (mapped_agree ts (i + 1))
 ·exact Agree.map ts (fun k => m.addF k) (field_agree ts i 1 0)
end
theorem parts_agree : ∀ (n deep : Nat) (m : Msg) (i : Nat), Agree ts (partsL ts n deep m i) (parts ts n deep m ⟨i, none⟩)
 | 0, deep, m, i => agree_ok ts m i
 | n + 1, deep, m, i => by
  rw [partsL, parts, more_on]
  by_cases c : isAt ts (onAt ts i) 4 [125] = true
  ·rw [if_pos c, if_pos c, if_neg (show ¬ (false = true) by decide)]
   exact agree_ok ts _ _
  ·rw [if_neg c, if_neg c, if_pos rfl]
   dsimp only
   refine bind_agree ts (part_agree ts (parts_agree n) (fun d m s h => by rw [stuck_parts ts h]) deep m (onAt ts i)) m (fun h1 e1 => ?_) (fun hs => ?_)
   ·rw [e1]
    exact parts_agree n deep _ _
   ·rw [stuck_parts ts hs]
theorem message_agree (deep i : Nat) : Agree ts (messageR ts deep i) (message ts deep ⟨i, none⟩) :=
 messageBy_agree ts (parts_agree ts (ts.length + 2)) (fun d m s h => by rw [stuck_parts ts h]) deep i
def headR : Bs × Nat × Stop :=
 if (want ts 0 [bSyntax, [61]]).2.2 ≠ 0 then ([], (want ts 0 [bSyntax, [61]]).1, (want ts 0 [bSyntax, [61]]).2)
 else if isAt ts (want ts 0 [bSyntax, [61]]).1 3 bProto3 then
  if (want ts ((want ts 0 [bSyntax, [61]]).1 + 1) [[59]]).2.2 ≠ 0 then ([], (want ts ((want ts 0 [bSyntax, [61]]).1 + 1) [[59]]).1, (want ts ((want ts 0 [bSyntax, [61]]).1 + 1) [[59]]).2)
  else if isAt ts (want ts ((want ts 0 [bSyntax, [61]]).1 + 1) [[59]]).1 1 bPackage then
   if (Sy.dotted ts ((want ts ((want ts 0 [bSyntax, [61]]).1 + 1) [[59]]).1 + 1) false).2.2.2 ≠ 0 then ([], (Sy.dotted ts ((want ts ((want ts 0 [bSyntax, [61]]).1 + 1) [[59]]).1 + 1) false).2.1, (Sy.dotted ts ((want ts ((want ts 0 [bSyntax, [61]]).1 + 1) [[59]]).1 + 1) false).2.2)
   else ((Sy.dotted ts ((want ts ((want ts 0 [bSyntax, [61]]).1 + 1) [[59]]).1 + 1) false).1, want ts (Sy.dotted ts ((want ts ((want ts 0 [bSyntax, [61]]).1 + 1) [[59]]).1 + 1) false).2.1 [[59]])
  else ([], (want ts ((want ts 0 [bSyntax, [61]]).1 + 1) [[59]]).1, none0)
 else ([], (want ts 0 [bSyntax, [61]]).1, bad (want ts 0 [bSyntax, [61]]).1)
theorem word_agree (i : Nat) (t : Bs) (ht : kindOf t = 1) (hn : t ≠ []) : Agree ts ((), want ts i [t]) ((), must ts 1 t ⟨i, none⟩) := by
 have hs := isAt_sees ts i 1 t hn (by decide)
 unfold Agree must
 rw [← hs]
 simp only [want, ht]
 by_cases h : isAt ts i 1 t = true
 ·simp [h, none0, St.next]
 ·simp [h, bad, fail_at]
theorem start_agree : Agree ts ((), want ts 0 [bSyntax, [61]]) ((), sign ts 61 (must ts 1 bSyntax ⟨0, none⟩)) := by
 have q61 : ¬ ((97 : UInt8) ≤ 61 ∧ (61 : UInt8) ≤ 122) := by decide
 have hw := word_agree ts 0 bSyntax (by decide) (by decide)
 have e : want ts 0 [bSyntax, [61]] = if (want ts 0 [bSyntax]).2.2 ≠ 0 then ((want ts 0 [bSyntax]).1, (want ts 0 [bSyntax]).2) else want ts (want ts 0 [bSyntax]).1 [[61]] := by
  by_cases c : isAt ts 0 (kindOf bSyntax) bSyntax = true
  ·simp only [want, if_pos c]; rfl
  ·simp only [want, if_neg c]; rfl
 unfold Agree at hw
 by_cases h : (want ts 0 [bSyntax]).2.2 = 0
 ·rw [if_pos h] at hw
  rw [if_neg (by simpa using h)] at e
  rw [e, (Prod.mk.inj hw).2]
  exact sign_agree ts _ 61 q61
 ·rw [if_neg h] at hw
  rw [if_pos (by simpa using h)] at e
  rw [e]
  have hs : (must ts 1 bSyntax ⟨0, none⟩).err.isSome = true := by rw [hw]; rfl
  rw [stuck_sign ts hs]
  unfold Agree
  dsimp only
  rw [if_neg h]
  exact hw
theorem headV_at (i : Nat) : headV ts ⟨i, none⟩ = if isAt ts i 3 bProto3 then ⟨i, none⟩ else fail ts ⟨i, none⟩ := by
 rw [isAt_sees ts i 3 bProto3 (by decide) (by decide)]
 unfold headV sees
 by_cases h : (peek ts ⟨i, none⟩).kind = 3 ∧ (peek ts ⟨i, none⟩).text = bProto3
 ·rw [if_pos h, if_pos (decide_eq_true h)]
 ·rw [if_neg h, if_neg (by simpa using h)]
theorem stuck_headV {s : St} (h : s.err.isSome = true) : headV ts s = s := by
 unfold headV
 rw [stuck_peek ts h, stuck_fail ts h]
 split <;> rfl
theorem head_file : Agree ts (headR ts) (Sx.head ts ⟨0, none⟩) := by
 have q59 : ¬ ((97 : UInt8) ≤ 59 ∧ (59 : UInt8) ≤ 122) := by decide
 unfold headR Sx.head
 dsimp only
 refine bind_agree ts (start_agree ts) ([] : Bs) (fun h1 e1 => ?_) (fun hs => ?_)
 ·obtain ⟨_, e2⟩ := Prod.mk.inj e1
  dsimp only at e2
  rw [e2]
  generalize (want ts 0 [bSyntax, [61]]).1 = j
  rw [headV_at]
  by_cases c : isAt ts j 3 bProto3 = true
  ·have c3 : isAt ts j 3 [] = true := by
    unfold isAt at c ⊢
    cases hg : ts[j]? with
    | none => rw [hg] at c; cases c
    | some x => rw [hg] at c; simp at c ⊢; exact c.1
   rw [if_pos c, if_pos c, of3, if_pos c3]
   dsimp only
   refine bind_sign ts q59 ([] : Bs) (fun h2 e3 => ?_) (fun hs => ?_)
   ·rw [e3]
    generalize (want ts (j + 1) [[59]]).1 = k
    rw [← isAt_sees ts k 1 bPackage (by decide) (by decide)]
    by_cases d : isAt ts k 1 bPackage = true
    ·rw [if_pos d, if_pos d]
     show Agree ts _ ((Sx.dotted ts ⟨k + 1, none⟩).1, sign ts 59 (Sx.dotted ts ⟨k + 1, none⟩).2)
     refine bind_agree ts (dotted_agree ts (k + 1)) ([] : Bs) (fun h3 e4 => ?_) (fun hs => ?_)
     ·rw [e4]
      exact end_sign ts q59 _
     ·exact stuck_sign ts hs 59
    ·rw [if_neg d, if_neg d]
     exact agree_ok ts _ _
   ·rw [stuck_sees ts hs (by decide)]; rfl
  ·rw [if_neg c, if_neg c]
   have hs : (fail ts ⟨j, none⟩).err.isSome = true := by rw [fail_at]; rfl
   rw [stuck_of ts hs (by decide)]
   dsimp only
   rw [stuck_sign ts hs, stuck_sees ts hs (by decide), if_neg (by decide)]
   unfold Agree
   rw [if_neg (by simp [bad])]
   exact fail_at ts j
 ·dsimp only at hs ⊢
  rw [stuck_headV ts hs, stuck_of ts hs (by decide)]
  dsimp only
  rw [stuck_sign ts hs, stuck_sees ts hs (by decide)]
  rfl
def filesL : Nat → Fil → Nat → Fil × Nat × Stop
 | 0, f, i => (f, i, none0)
 | n + 1, f, i =>
  if ts.length ≤ i then (f, i, none0)
  else if isAt ts i 4 [59] then filesL n f (i + 1)
  else if isAt ts i 1 bMessage then
   if (messageR ts 0 (i + 1)).2.2.2 ≠ 0 then (f, (messageR ts 0 (i + 1)).2.1, (messageR ts 0 (i + 1)).2.2)
   else filesL n { f with msgs := f.msgs ++ [(messageR ts 0 (i + 1)).1] } (messageR ts 0 (i + 1)).2.1
  else if isAt ts i 1 bEnum then
   if (enumR ts (i + 1)).2.2.2 ≠ 0 then (f, (enumR ts (i + 1)).2.1, (enumR ts (i + 1)).2.2)
   else filesL n { f with enums := f.enums ++ [(enumR ts (i + 1)).1] } (enumR ts (i + 1)).2.1
  else (f, i, bad i)
theorem stuck_files {s : St} (h : s.err.isSome = true) (n : Nat) (f : Fil) : files ts n f s = (f, s) := by
 cases n with
 | zero => rfl
 | succ n => rw [files, if_pos (.inl h)]
theorem files_agree : ∀ (n : Nat) (f : Fil) (i : Nat), Agree ts (filesL ts n f i) (files ts n f ⟨i, none⟩)
 | 0, f, i => agree_ok ts f i
 | n + 1, f, i => by
  have nx : St.next ⟨i, none⟩ = ⟨i + 1, none⟩ := rfl
  rw [filesL, files, nx, ← isAt_sees ts i 4 [59] (by simp) (by decide), ← isAt_sees ts i 1 bMessage (by decide) (by decide), ← isAt_sees ts i 1 bEnum (by decide) (by decide)]
  by_cases hl : ts.length ≤ i
  ·rw [if_pos hl, if_pos (.inr hl)]; exact agree_ok ts f i
  ·have hc : ¬ ((⟨i, none⟩ : St).err.isSome = true ∨ ts.length ≤ (⟨i, none⟩ : St).pos) := fun e => e.elim (fun e => by cases e) hl
   rw [if_neg hl, if_neg hc]
   split
   ·exact files_agree n f (i + 1)
   split
   ·refine bind_agree ts (message_agree ts 0 (i + 1)) f (fun h1 e1 => ?_) (fun hs => ?_)
    ·rw [e1]; exact files_agree n _ _
    ·rw [stuck_files ts hs]
   split
   ·refine bind_agree ts (enum_agree ts (i + 1)) f (fun h1 e1 => ?_) (fun hs => ?_)
    ·rw [e1]; exact files_agree n _ _
    ·rw [stuck_files ts hs]
   ·have hs : (fail ts ⟨i, none⟩).err.isSome = true := by rw [fail_at]; rfl
    rw [stuck_files ts hs]
    unfold Agree
    rw [if_neg (by simp [bad])]
    exact fail_at ts i
def zFil : Fil := ⟨[], [], []⟩
def fileR : Fil × Stop :=
 if (headR ts).2.2.2 ≠ 0 then (zFil, (headR ts).2.2) else ((filesL ts (ts.length + 2) ⟨(headR ts).1, [], []⟩ (headR ts).2.1).1, (filesL ts (ts.length + 2) ⟨(headR ts).1, [], []⟩ (headR ts).2.1).2.2)
def parseR : Fil × Nat × Nat × Nat :=
 if (fileR ts).2.2 = 0 then ((fileR ts).1, 0, 0, 0) else (zFil, (fileR ts).2.2, ((ts[(fileR ts).2.1]?).getD zTok).line, ((ts[(fileR ts).2.1]?).getD zTok).col)
def numsOf : Option (Nat × Nat × Nat) → Nat × Nat × Nat
 | none => (0, 0, 0)
 | some x => x
theorem parse_agree : parseR ts = ((Sx.parse ts).1, numsOf (Sx.parse ts).2) := by
 have hh := head_file ts
 unfold Sx.parse
 dsimp only
 unfold Agree at hh
 by_cases h1 : (headR ts).2.2.2 = 0
 ·rw [if_pos h1] at hh
  have hF : fileR ts = ((filesL ts (ts.length + 2) ⟨(headR ts).1, [], []⟩ (headR ts).2.1).1, (filesL ts (ts.length + 2) ⟨(headR ts).1, [], []⟩ (headR ts).2.1).2.2) := by
   unfold fileR; rw [if_neg (by simpa using h1)]
  unfold parseR
  rw [hF, hh]
  dsimp only
  have hf := files_agree ts (ts.length + 2) ⟨(headR ts).1, [], []⟩ (headR ts).2.1
  unfold Agree at hf
  by_cases h2 : (filesL ts (ts.length + 2) ⟨(headR ts).1, [], []⟩ (headR ts).2.1).2.2.2 = 0
  ·rw [if_pos h2] at hf
   rw [if_pos h2, hf]
   rfl
  ·rw [if_neg h2] at hf
   rw [if_neg h2, if_pos (by rw [hf]; rfl), hf]
   rfl
 ·rw [if_neg h1] at hh
  have hF : fileR ts = (zFil, (headR ts).2.2) := by unfold fileR; rw [if_pos (by simpa using h1)]
  unfold parseR
  rw [hF]
  dsimp only
  rw [if_neg h1]
  have hs : (Sx.head ts ⟨0, none⟩).2.err.isSome = true := by rw [hh]; rfl
  rw [stuck_files ts hs]
  dsimp only
  rw [if_pos hs, hh]
  rfl
end Go.Proofs.YtpcfdngnmigkfaaGreatDoor.Sy
