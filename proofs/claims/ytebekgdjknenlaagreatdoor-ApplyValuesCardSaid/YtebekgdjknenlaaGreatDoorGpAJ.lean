/- Plain facts: the order of values; right values that are the same are one. -/
import Derived.Test.YtebekgdjknenlaaGreatDoorGpAF
import Derived.Lib.Strings
set_option linter.unusedVariables false
set_option linter.unusedSimpArgs false
set_option linter.unusedSectionVars false
namespace Go.Proofs.YtebekgdjknenlaaGreatDoor.Val
theorem ocmp_refl (a : Int) : ocmp a a = 0 := by simp [ocmp]
theorem ocmp_zero {a b : Int} (h : ocmp a b = 0) : a = b := by
 unfold ocmp at h; split at h
 ·cases h
 ·split at h
  ·cases h
  ·omega
theorem ocmp_neg {a b : Int} : ocmp a b < 0 ↔ a < b := by
 unfold ocmp; split
 ·simp [*]
 ·split <;> simp <;> omega
theorem ocmp_pos {a b : Int} : 0 < ocmp a b ↔ b < a := by
 unfold ocmp; split
 ·simp; omega
 ·split <;> simp <;> omega
theorem less_irrefl : ∀ l : List UInt8, Op.bytesLess l l = false
 | [] => rfl
 | a :: r => by
  have h := less_irrefl r
  simp [Op.bytesLess, h]
theorem less_trans : ∀ {a b c : List UInt8}, Op.bytesLess a b = true → Op.bytesLess b c = true → Op.bytesLess a c = true
 | [], _ :: _, _ :: _, _, _ => rfl
 | a :: x, b :: y, c :: z, h1, h2 => by
  simp only [Op.bytesLess, Bool.or_eq_true, decide_eq_true_eq, Bool.and_eq_true, beq_iff_eq] at *
  rcases h1 with h1 | ⟨rfl, h1⟩
  ·rcases h2 with h2 | ⟨rfl, h2⟩
   ·left; exact UInt8.lt_trans h1 h2
   ·left; exact h1
  ·rcases h2 with h2 | ⟨rfl, h2⟩
   ·left; exact h2
   ·right; exact ⟨rfl, less_trans h1 h2⟩
theorem less_total : ∀ (a b : List UInt8), Op.bytesLess a b = false → a ≠ b → Op.bytesLess b a = true
 | [], [], _, h => absurd rfl h
 | [], _ :: _, h, _ => by simp [Op.bytesLess] at h
 | _ :: _, [], _, _ => rfl
 | a :: x, b :: y, h, hne => by
  simp only [Op.bytesLess, Bool.or_eq_false_iff, decide_eq_false_iff_not, Bool.and_eq_false_iff, beq_eq_false_iff_ne, Bool.or_eq_true, decide_eq_true_eq, Bool.and_eq_true, beq_iff_eq] at *
  obtain ⟨h1, h2⟩ := h
  by_cases e : a = b
  ·subst e
   right
   refine ⟨rfl, less_total x y (h2.resolve_left (fun h => h rfl)) (fun e => hne (by rw [e]))⟩
  ·left
   have h1' := UInt8.not_lt.1 h1
   exact UInt8.lt_of_le_of_ne h1' (fun e2 => e e2.symm)
theorem bytes_ext {a b : ByteArray} (h : a.toList = b.toList) : a = b := by
 rw [ByteArray.toList_eq, ByteArray.toList_eq] at h
 cases a; cases b
 congr
 exact Array.toList_inj.1 h
theorem bytes_empty {a : ByteArray} (h : a.size = 0) : a = ByteArray.empty := by
 cases a with
 | mk d =>
  have : d = #[] := Array.eq_empty_of_size_eq_zero h
  rw [this]; rfl
theorem scmp_refl (a : ByteArray) : scmp a a = 0 := by simp [scmp, less_irrefl]
theorem scmp_zero {a b : ByteArray} (h : scmp a b = 0) : a = b := by
 unfold scmp at h; split at h
 ·cases h
 ·split at h
  ·exact bytes_ext ‹_›
  ·cases h
theorem scmp_neg {a b : ByteArray} : scmp a b < 0 ↔ Op.bytesLess a.toList b.toList = true := by
 unfold scmp; split
 ·simp [*]
 ·split <;> simp_all
theorem scmp_pos {a b : ByteArray} : 0 < scmp a b ↔ Op.bytesLess b.toList a.toList = true := by
 unfold scmp; split
 ·rename_i h
  simp
  cases e : Op.bytesLess b.toList a.toList with
  | false => rfl
  | true => have := less_trans h e; rw [less_irrefl] at this; cases this
 ·rename_i h
  split
  ·rename_i h2; rw [h2]; simp [less_irrefl]
  ·rename_i h2
   simp only [Int.zero_lt_one, true_iff]
   exact less_total _ _ (by simpa using h) h2
theorem orr_zero {a b : Int} (h : orr a b = 0) : a = 0 ∧ b = 0 := by
 unfold orr at h; split at h
 ·exact ⟨‹_›, h⟩
 ·exact absurd h ‹_›
mutual
theorem cmp_refl : ∀ v : V, cmp v v = 0
 | .mk k n t fs r l ps => by
  rw [cmp, if_pos rfl, ocmp_refl, scmp_refl, cmpF_refl fs, scmp_refl, cmpL_refl l, cmpP_refl ps]
  simp [orr]
theorem cmpF_refl : ∀ fs : List (Int × V), cmpF fs fs = 0
 | [] => by rw [cmpF]
 | (n, v) :: r => by rw [cmpF, ocmp_refl, cmp_refl v, cmpF_refl r]; simp [orr]
theorem cmpL_refl : ∀ fs : List V, cmpL fs fs = 0
 | [] => by rw [cmpL]
 | v :: r => by rw [cmpL, cmp_refl v, cmpL_refl r]; simp [orr]
theorem cmpP_refl : ∀ fs : List (V × V), cmpP fs fs = 0
 | [] => by rw [cmpP]
 | (n, v) :: r => by rw [cmpP, cmp_refl n, cmp_refl v, cmpP_refl r]; simp [orr]
end
theorem right_parts {k n : Int} {t : ByteArray} {fs : List (Int × V)} {r : ByteArray} {l : List V} {ps : List (V × V)} (h : right (.mk k n t fs r l ps) = true) :
  (k = 1 ∨ n = 0) ∧ (k = 2 ∨ t = ByteArray.empty) ∧ (k = 3 ∨ fs = []) ∧ (k = 3 ∨ r = ByteArray.empty) ∧ (k = 4 ∨ l = []) ∧ (k = 5 ∨ ps = []) ∧
  (k = 0 ∨ k = 1 ∨ k = 2 ∨ (k = 3 ∧ rightF 0 fs = true) ∨ (k = 4 ∧ 0 < l.length ∧ rightL l = true) ∨ (k = 5 ∧ 0 < ps.length ∧ rightP none ps = true)) := by
 rw [right, Bool.and_eq_true] at h
 obtain ⟨h1, h2⟩ := h
 unfold bareV at h1
 simp only [decide_eq_true_eq, List.length_eq_zero_iff] at h1
 obtain ⟨a1, a2, a3, a4, a5, a6⟩ := h1
 refine ⟨a1, a2.imp_right bytes_empty, a3, a4.imp_right bytes_empty, a5, a6, ?_⟩
 split at h2
 ·rename_i h; rcases h with h | h | h
  ·exact .inl h
  ·exact .inr (.inl h)
  ·exact .inr (.inr (.inl h))
 ·split at h2
  ·exact .inr (.inr (.inr (.inl ⟨‹_›, h2⟩)))
  ·split at h2
   ·simp only [Bool.and_eq_true, decide_eq_true_eq] at h2
    exact .inr (.inr (.inr (.inr (.inl ⟨‹_›, h2⟩))))
   ·split at h2
    ·simp only [Bool.and_eq_true, decide_eq_true_eq] at h2
     exact .inr (.inr (.inr (.inr (.inr ⟨‹_›, h2⟩))))
    ·cases h2
mutual
theorem cmp_eq : ∀ (a b : V), right a = true → right b = true → cmp a b = 0 → a = b
 | .mk k n t fs r l ps, .mk k' n' t' fs' r' l' ps', ha, hb, h => by
  rw [cmp] at h
  split at h
  case isFalse hk => exact absurd (ocmp_zero h) hk
  case isTrue hk =>
  subst hk
  obtain ⟨a1, a2, a3, a4, a5, a6, a7⟩ := right_parts ha
  obtain ⟨b1, b2, b3, b4, b5, b6, b7⟩ := right_parts hb
  rcases a7 with rfl | rfl | rfl | ⟨rfl, a7⟩ | ⟨rfl, _, a7⟩ | ⟨rfl, _, a7⟩
  ·simp at a1 a2 a3 a4 a5 a6 b1 b2 b3 b4 b5 b6; simp [*]
  ·simp at a2 a3 a4 a5 a6 b2 b3 b4 b5 b6 h
   have := ocmp_zero h; simp [*]
  ·simp at a1 a3 a4 a5 a6 b1 b3 b4 b5 b6 h
   have := scmp_zero h; simp [*]
  ·simp at a1 a2 a5 a6 b1 b2 b5 b6 h
   obtain ⟨h1, h2⟩ := orr_zero h
   simp at b7
   have e1 := cmpF_eq fs fs' 0 0 a7 b7 h1
   have e2 := scmp_zero h2
   simp [*]
  ·simp at a1 a2 a3 a4 a6 b1 b2 b3 b4 b6 h
   simp at b7
   have e1 := cmpL_eq l l' a7 b7.2 h
   simp [*]
  ·simp at a1 a2 a3 a4 a5 b1 b2 b3 b4 b5 h
   simp at b7
   have e1 := cmpP_eq ps ps' none none a7 b7.2 h
   simp [*]
theorem cmpF_eq : ∀ (a b : List (Int × V)) (i j : Int), rightF i a = true → rightF j b = true → cmpF a b = 0 → a = b
 | [], [], _, _, _, _, _ => rfl
 | [], _ :: _, _, _, _, _, h => by rw [cmpF] at h; cases h
 | _ :: _, [], _, _, _, _, h => by rw [cmpF] at h; cases h
 | (n, v) :: r, (n', v') :: r', i, j, ha, hb, h => by
  rw [cmpF] at h
  rw [rightF] at ha hb
  simp only [Bool.and_eq_true] at ha hb
  obtain ⟨h1, h2⟩ := orr_zero h
  obtain ⟨h1, h3⟩ := orr_zero h1
  rw [ocmp_zero h1, cmp_eq v v' ha.1.2 hb.1.2 h3, cmpF_eq r r' _ _ ha.2 hb.2 h2]
theorem cmpL_eq : ∀ (a b : List V), rightL a = true → rightL b = true → cmpL a b = 0 → a = b
 | [], [], _, _, _ => rfl
 | [], _ :: _, _, _, h => by rw [cmpL] at h; cases h
 | _ :: _, [], _, _, h => by rw [cmpL] at h; cases h
 | v :: r, v' :: r', ha, hb, h => by
  rw [cmpL] at h
  rw [rightL] at ha hb
  simp only [Bool.and_eq_true] at ha hb
  obtain ⟨h1, h2⟩ := orr_zero h
  rw [cmp_eq v v' ha.1.2 hb.1.2 h1, cmpL_eq r r' ha.2 hb.2 h2]
theorem cmpP_eq : ∀ (a b : List (V × V)) (i j : Option V), rightP i a = true → rightP j b = true → cmpP a b = 0 → a = b
 | [], [], _, _, _, _, _ => rfl
 | [], _ :: _, _, _, _, _, h => by rw [cmpP] at h; cases h
 | _ :: _, [], _, _, _, _, h => by rw [cmpP] at h; cases h
 | (n, v) :: r, (n', v') :: r', i, j, ha, hb, h => by
  rw [cmpP] at h
  rw [rightP.eq_def] at ha hb
  simp only [Bool.and_eq_true] at ha hb
  obtain ⟨h1, h2⟩ := orr_zero h
  obtain ⟨h1, h3⟩ := orr_zero h1
  rw [cmp_eq n n' ha.1.1.1.2 hb.1.1.1.2 h1, cmp_eq v v' ha.1.1.2.2 hb.1.1.2.2 h3, cmpP_eq r r' _ _ ha.2 hb.2 h2]
end
theorem cmp_iff {a b : V} (ha : right a = true) (hb : right b = true) : cmp a b = 0 ↔ a = b := ⟨cmp_eq a b ha hb, fun e => e ▸ cmp_refl a⟩
def keyV (v : V) : Prop := v.kind = 1 ∨ v.kind = 2
theorem cmp_kinds {a b : V} (h : a.kind ≠ b.kind) : cmp a b = ocmp a.kind b.kind := by
 cases a; cases b; simp only [V.kind] at h ⊢; rw [cmp, if_neg h]
theorem cmp_num {a b : V} (h : a.kind = 1) (h2 : b.kind = 1) : cmp a b = ocmp a.num b.num := by
 cases a; cases b; simp only [V.kind] at h h2; subst h; subst h2; rw [cmp, if_pos rfl, if_pos rfl]; rfl
theorem cmp_text {a b : V} (h : a.kind = 2) (h2 : b.kind = 2) : cmp a b = scmp a.text b.text := by
 cases a; cases b; simp only [V.kind] at h h2; subst h; subst h2; rw [cmp, if_pos rfl]; simp [V.text]
theorem key_trans {a b c : V} (ha : keyV a) (hb : keyV b) (hc : keyV c) (h1 : cmp a b < 0) (h2 : cmp b c < 0) : cmp a c < 0 := by
 by_cases e1 : a.kind = b.kind
 ·by_cases e2 : b.kind = c.kind
  ·rcases ha with ha | ha
   ·rw [cmp_num ha (e1 ▸ ha), ocmp_neg] at h1
    rw [cmp_num (e1 ▸ ha) (e2 ▸ e1 ▸ ha), ocmp_neg] at h2
    rw [cmp_num ha (e2 ▸ e1 ▸ ha), ocmp_neg]; omega
   ·rw [cmp_text ha (e1 ▸ ha), scmp_neg] at h1
    rw [cmp_text (e1 ▸ ha) (e2 ▸ e1 ▸ ha), scmp_neg] at h2
    rw [cmp_text ha (e2 ▸ e1 ▸ ha), scmp_neg]; exact less_trans h1 h2
  ·rw [cmp_kinds e2, ocmp_neg] at h2
   rw [cmp_kinds (by rw [e1]; exact e2), ocmp_neg]; omega
 ·rw [cmp_kinds e1, ocmp_neg] at h1
  by_cases e2 : b.kind = c.kind
  ·rw [cmp_kinds (by rw [← e2]; exact e1), ocmp_neg]; omega
  ·rw [cmp_kinds e2, ocmp_neg] at h2
   have : a.kind ≠ c.kind := by omega
   rw [cmp_kinds this, ocmp_neg]; omega
theorem key_anti {a b : V} (ha : keyV a) (hb : keyV b) : cmp a b < 0 ↔ 0 < cmp b a := by
 by_cases e : a.kind = b.kind
 ·rcases ha with ha | ha
  ·rw [cmp_num ha (e ▸ ha), cmp_num (e ▸ ha) ha, ocmp_neg, ocmp_pos]
  ·rw [cmp_text ha (e ▸ ha), cmp_text (e ▸ ha) ha, scmp_neg, scmp_pos]
 ·rw [cmp_kinds e, cmp_kinds (fun h => e h.symm), ocmp_neg, ocmp_pos]
end Go.Proofs.YtebekgdjknenlaaGreatDoor.Val
namespace Go.Proofs.YtebekgdjknenlaaGreatDoor.Val
section
variable {κ : Type} (c : κ → κ → Int) (K : κ → Prop)
def gpos (d : κ) (l : List (κ × V)) (n : κ) : Nat := firstGe (fun i => c (l.getD i (d, v0)).1 n) l.length
def ghit (d : κ) (l : List (κ × V)) (n : κ) : Bool := decide (gpos c d l n < l.length) && decide (c (l.getD (gpos c d l n) (d, v0)).1 n = 0)
def look : List (κ × V) → κ → Option V
 | [], _ => none
 | (m, y) :: r, n => if c m n < 0 then look r n else if c m n = 0 then some y else none
def ins : List (κ × V) → κ → V → List (κ × V)
 | [], n, x => if x.kind ≠ 0 then [(n, x)] else []
 | (m, y) :: r, n, x => if c m n < 0 then (m, y) :: ins r n x else if c m n = 0 then (if x.kind ≠ 0 then (n, x) :: r else r) else (if x.kind ≠ 0 then (n, x) :: (m, y) :: r else (m, y) :: r)
theorem gpos_cons (d m n : κ) (y : V) (r : List (κ × V)) : gpos c d ((m, y) :: r) n = if c m n < 0 then gpos c d r n + 1 else 0 := by
 unfold gpos
 rw [List.length_cons, firstGe.eq_def]
 simp
theorem ghit_cons (d m n : κ) (y : V) (r : List (κ × V)) : ghit c d ((m, y) :: r) n = if c m n < 0 then ghit c d r n else decide (c m n = 0) := by
 unfold ghit
 rw [gpos_cons]
 by_cases h : c m n < 0
 ·simp [h]
 ·simp [h]
theorem look_eq (d : κ) : ∀ (l : List (κ × V)) (n : κ), (if ghit c d l n = true then some (l.getD (gpos c d l n) (d, v0)).2 else none) = look c l n
 | [], n => by simp [ghit, gpos, firstGe, look]
 | (m, y) :: r, n => by
  have ih := look_eq d r n
  rw [look, ghit_cons, gpos_cons]
  by_cases h : c m n < 0
  ·simp only [h, if_true]; rw [← ih]; simp
  ·simp only [h, if_false]; by_cases h2 : c m n = 0 <;> simp [h2]
theorem ins_eq (d : κ) : ∀ (l : List (κ × V)) (n : κ) (x : V), spl l (gpos c d l n) (one (ghit c d l n)) (decide (x.kind ≠ 0)) (n, x) = ins c l n x
 | [], n, x => by simp [gpos, ghit, firstGe, spl, one, ins]
 | (m, y) :: r, n, x => by
  have ih := ins_eq d r n x
  rw [ins, ghit_cons, gpos_cons]
  by_cases h : c m n < 0
  ·simp only [h, if_true]
   rw [← ih]
   unfold spl
   rw [List.take_succ_cons, List.cons_append, show gpos c d r n + 1 + one (ghit c d r n) = (gpos c d r n + one (ghit c d r n)) + 1 by omega, List.drop_succ_cons]
  ·simp only [h, if_false]
   by_cases h2 : c m n = 0
   ·by_cases h3 : x.kind = 0 <;> simp [spl, one, h2, h3]
   ·by_cases h3 : x.kind = 0 <;> simp [spl, one, h2, h3]
structure Ord : Prop where
 trans : ∀ {a b d}, K a → K b → K d → c a b < 0 → c b d < 0 → c a d < 0
 anti : ∀ {a b}, K a → K b → (c a b < 0 ↔ 0 < c b a)
 zero : ∀ {a b}, K a → K b → (c a b = 0 ↔ a = b)
def Srt (l : List (κ × V)) : Prop := (∀ e ∈ l, K e.1) ∧ l.Pairwise (fun a b => c a.1 b.1 < 0)
variable {c K} (O : Ord c K)
include O
theorem Ord.self {a : κ} (ha : K a) : c a a = 0 := (O.zero ha ha).2 rfl
theorem Srt.tail {e : κ × V} {r : List (κ × V)} (h : Srt c K (e :: r)) : Srt c K r := ⟨fun x hx => h.1 x (by simp [hx]), (List.pairwise_cons.1 h.2).2⟩
theorem look_ahead : ∀ {l : List (κ × V)} {n : κ}, Srt c K l → K n → (∀ e ∈ l, c n e.1 < 0) → look c l n = none
 | [], _, _, _, _ => rfl
 | (m, y) :: r, n, hs, hn, h => by
  have h1 : c n m < 0 := h (m, y) (by simp)
  have hm : K m := hs.1 (m, y) (by simp)
  have h2 := (O.anti hn hm).1 h1
  rw [look, if_neg (by omega), if_neg (by omega)]
theorem look_ins_same : ∀ {l : List (κ × V)} {n : κ} (x : V), Srt c K l → K n → look c (ins c l n x) n = if x.kind ≠ 0 then some x else none
 | [], n, x, hs, hn => by
  rw [ins]
  by_cases h : x.kind = 0
  ·simp [h, look]
  ·simp [h, look, O.self hn]
 | (m, y) :: r, n, x, hs, hn => by
  have hm : K m := hs.1 (m, y) (by simp)
  have ih := look_ins_same x (Srt.tail O hs) hn
  rw [ins]
  by_cases h1 : c m n < 0
  ·rw [if_pos h1, look, if_pos h1, ih]
  ·rw [if_neg h1]
   by_cases h2 : c m n = 0
   ·rw [if_pos h2]
    by_cases h : x.kind = 0
    ·simp only [h, ne_eq, not_true, if_false]
     have e := (O.zero hm hn).1 h2
     subst e
     exact look_ahead O (Srt.tail O hs) hn (fun e he => (List.pairwise_cons.1 hs.2).1 e he)
    ·simp [h, look, O.self hn]
   ·rw [if_neg h2]
    by_cases h : x.kind = 0
    ·simp [h, look, h1, h2]
    ·simp [h, look, O.self hn]
theorem look_ins_ne : ∀ {l : List (κ × V)} {n m : κ} (x : V), Srt c K l → K n → K m → m ≠ n → look c (ins c l n x) m = look c l m
 | [], n, m, x, hs, hn, hm, hne => by
  rw [ins]
  by_cases h : x.kind = 0
  ·simp [h]
  ·have h2 : ¬ c n m = 0 := fun e => hne ((O.zero hn hm).1 e).symm
   simp [h, look, h2]
 | (a, y) :: r, n, m, x, hs, hn, hm, hne => by
  have ha : K a := hs.1 (a, y) (by simp)
  have ih := look_ins_ne x (Srt.tail O hs) hn hm hne
  have h2 : ¬ c n m = 0 := fun e => hne ((O.zero hn hm).1 e).symm
  rw [ins]
  by_cases h1 : c a n < 0
  ·rw [if_pos h1, look, ih, look]
  ·rw [if_neg h1]
   by_cases h3 : c a n = 0
   ·have e := (O.zero ha hn).1 h3
    subst e
    rw [if_pos h3]
    have hah : c a m < 0 ∨ ¬ c a m < 0 := Classical.em _
    by_cases h : x.kind = 0
    ·simp only [h, ne_eq, not_true, if_false]
     rw [look]
     by_cases h4 : c a m < 0
     ·rw [if_pos h4]
     ·rw [if_neg h4, if_neg h2]
      have h5 : c m a < 0 := (O.anti hm ha).2 (by omega)
      exact look_ahead O (Srt.tail O hs) hm (fun e he => O.trans hm ha (hs.1 e (by simp [he])) h5 ((List.pairwise_cons.1 hs.2).1 e he))
    ·simp only [h, ne_eq, not_false_eq_true, if_true]
     rw [look, look]
     simp [h2]
   ·rw [if_neg h3]
    have hna : c n a < 0 := (O.anti hn ha).2 (by omega)
    by_cases h : x.kind = 0
    ·simp [h]
    ·simp only [h, ne_eq, not_false_eq_true, if_true]
     rw [look]
     by_cases h4 : c n m < 0
     ·rw [if_pos h4]
     ·rw [if_neg h4, if_neg h2]
      have h5 : c m n < 0 := (O.anti hm hn).2 (by omega)
      refine (look_ahead O hs hm (fun e he => ?_)).symm
      have hma := O.trans hm hn ha h5 hna
      rcases List.mem_cons.1 he with rfl | he2
      ·exact hma
      ·exact O.trans hm ha (hs.1 e he) hma ((List.pairwise_cons.1 hs.2).1 e he2)
theorem mem_ins : ∀ {l : List (κ × V)} {n : κ} {x : V} {e : κ × V}, e ∈ ins c l n x → e ∈ l ∨ (e = (n, x) ∧ x.kind ≠ 0)
 | [], n, x, e, h => by
  rw [ins] at h
  split at h
  ·rename_i hk; exact .inr ⟨by simpa using h, hk⟩
  ·simp at h
 | (a, y) :: r, n, x, e, h => by
  rw [ins] at h
  split at h
  ·rcases List.mem_cons.1 h with rfl | h
   ·exact .inl (by simp)
   ·rcases mem_ins h with h | h
    ·exact .inl (by simp [h])
    ·exact .inr h
  ·split at h
   ·split at h
    ·rename_i hk
     rcases List.mem_cons.1 h with rfl | h
     ·exact .inr ⟨rfl, hk⟩
     ·exact .inl (by simp [h])
    ·exact .inl (by simp [h])
   ·split at h
    ·rename_i hk
     rcases List.mem_cons.1 h with rfl | h
     ·exact .inr ⟨rfl, hk⟩
     ·exact .inl h
    ·exact .inl h
theorem srt_ins : ∀ {l : List (κ × V)} {n : κ} (x : V), Srt c K l → K n → Srt c K (ins c l n x)
 | [], n, x, hs, hn => by
  rw [ins]
  split
  ·exact ⟨fun e he => by obtain rfl : e = (n, x) := (by simpa using he); exact hn, by simp⟩
  ·exact hs
 | (a, y) :: r, n, x, hs, hn => by
  have ha : K a := hs.1 (a, y) (by simp)
  have ih := srt_ins x (Srt.tail O hs) hn
  have hp := List.pairwise_cons.1 hs.2
  rw [ins]
  split
  ·rename_i h1
   refine ⟨fun e he => ?_, List.pairwise_cons.2 ⟨fun e he => ?_, ih.2⟩⟩
   ·rcases List.mem_cons.1 he with rfl | he
    ·exact ha
    ·exact ih.1 e he
   ·rcases mem_ins O he with he | ⟨rfl, _⟩
    ·exact hp.1 e he
    ·exact h1
  ·rename_i h1
   split
   ·rename_i h2
    have e := (O.zero ha hn).1 h2
    subst e
    split
    ·exact ⟨fun e he => (List.mem_cons.1 he).elim (fun h => (by subst h; exact ha)) (fun h => hs.1 e (by simp [h])), List.pairwise_cons.2 ⟨hp.1, hp.2⟩⟩
    ·exact Srt.tail O hs
   ·rename_i h2
    have hna : c n a < 0 := (O.anti hn ha).2 (by omega)
    split
    ·refine ⟨fun e he => ?_, List.pairwise_cons.2 ⟨fun e he => ?_, hs.2⟩⟩
     ·rcases List.mem_cons.1 he with rfl | he
      ·exact hn
      ·exact hs.1 e he
     ·rcases List.mem_cons.1 he with rfl | he2
      ·exact hna
      ·exact O.trans hn ha (hs.1 e he) hna (hp.1 e he2)
    ·exact hs
theorem look_mem : ∀ {l : List (κ × V)} {n : κ} {y : V}, Srt c K l → K n → look c l n = some y → (n, y) ∈ l
 | [], _, _, _, _, h => by cases h
 | (a, z) :: r, n, y, hs, hn, h => by
  rw [look] at h
  split at h
  ·exact List.mem_cons_of_mem _ (look_mem (Srt.tail O hs) hn h)
  ·split at h
   ·rename_i h2
    have e := (O.zero (hs.1 (a, z) (by simp)) hn).1 h2
    subst e
    cases h; simp
   ·cases h
theorem mem_look : ∀ {l : List (κ × V)} {n : κ} {y : V}, Srt c K l → (n, y) ∈ l → look c l n = some y
 | (a, z) :: r, n, y, hs, h => by
  have hn : K n := hs.1 _ h
  rw [look]
  rcases List.mem_cons.1 h with h | h
  ·cases h
   rw [if_neg (by rw [O.self hn]; omega), if_pos (O.self hn)]
  ·rw [if_pos ((List.pairwise_cons.1 hs.2).1 _ h)]
   exact mem_look (Srt.tail O hs) h
theorem srt_ext : ∀ {l l' : List (κ × V)}, Srt c K l → Srt c K l' → (∀ n, K n → look c l n = look c l' n) → l = l'
 | [], [], _, _, _ => rfl
 | [], (n, y) :: r, _, hs, h => by
  have hn : K n := hs.1 (n, y) (by simp)
  have := h n hn
  rw [look, mem_look O hs (List.mem_cons_self ..)] at this; cases this
 | (n, y) :: r, [], hs, _, h => by
  have hn : K n := hs.1 (n, y) (by simp)
  have := h n hn
  rw [mem_look O hs (List.mem_cons_self ..), look] at this; cases this
 | (n, y) :: r, (m, z) :: q, hs, ht, h => by
  have hn : K n := hs.1 (n, y) (by simp)
  have hm : K m := ht.1 (m, z) (by simp)
  have ps := List.pairwise_cons.1 hs.2
  have pt := List.pairwise_cons.1 ht.2
  have e1 := h n hn
  rw [mem_look O hs (List.mem_cons_self ..)] at e1
  have m1 := look_mem O ht hn e1.symm
  have e2 := h m hm
  rw [mem_look O ht (List.mem_cons_self ..)] at e2
  have m2 := look_mem O hs hm e2
  have hnm : n = m := by
   rcases List.mem_cons.1 m1 with h1 | h1
   ·cases h1; rfl
   ·rcases List.mem_cons.1 m2 with h2 | h2
    ·cases h2; rfl
    ·have q1 := ps.1 _ h2
     have q2 := pt.1 _ h1
     have q3 := (O.anti hn hm).1 q1
     have q4 : c m n < 0 := q2
     omega
  subst hnm
  have hyz : y = z := by
   rw [mem_look O ht (List.mem_cons_self ..)] at e1; cases e1; rfl
  subst hyz
  rw [srt_ext (Srt.tail O hs) (Srt.tail O ht) (fun k hk => ?_)]
  have := h k hk
  rw [look, look] at this
  by_cases h1 : c n k < 0
  ·simpa [h1] using this
  ·have hr : ∀ {l : List (κ × V)}, Srt c K ((n, y) :: l) → look c l k = none := fun {l} hl => by
    refine look_ahead O (Srt.tail O hl) hk (fun e he => ?_)
    have pe := (List.pairwise_cons.1 hl.2).1 e he
    have ke := hl.1 e (by simp [he])
    by_cases h2 : c k n < 0
    ·exact O.trans hk hn ke h2 pe
    ·have : k = n := (O.zero hk hn).1 (by
      have := mt (O.anti hn hk).2 h1
      omega)
     rw [this]; exact pe
   rw [hr hs, hr ht]
theorem srt_mono (d : κ) {l : List (κ × V)} {n : κ} (hs : Srt c K l) (hn : K n) : MonoN (fun i => c (l.getD i (d, v0)).1 n) l.length := by
 intro i j hij hj h
 simp only [List.getD_eq_getElem?_getD, List.getElem?_eq_getElem hj, List.getElem?_eq_getElem (show i < l.length by omega), Option.getD_some] at h ⊢
 by_cases e : i = j
 ·subst e; exact h
 ·exact O.trans (hs.1 _ (List.getElem_mem _)) (hs.1 _ (List.getElem_mem _)) hn (List.pairwise_iff_getElem.1 hs.2 i j (by omega) hj (by omega)) h
end
end Go.Proofs.YtebekgdjknenlaaGreatDoor.Val
namespace Go.Proofs.YtebekgdjknenlaaGreatDoor.Val
def KI (n : Int) : Prop := 1 ≤ n ∧ n ≤ 536870911
def KP (kd : Int) (v : V) : Prop := v.kind = kd ∧ (kd = 1 ∨ kd = 2) ∧ right v = true
theorem KP.key {kd : Int} {v : V} (h : KP kd v) : keyV v := by
 obtain ⟨h1, h2, _⟩ := h; unfold keyV; rw [h1]; exact h2
theorem ordI : Ord ocmp KI where
 trans _ _ _ h1 h2 := by rw [ocmp_neg] at *; omega
 anti _ _ := by rw [ocmp_neg, ocmp_pos]
 zero _ _ := ⟨ocmp_zero, fun e => e ▸ ocmp_refl _⟩
theorem ordP (kd : Int) : Ord cmp (KP kd) where
 trans h1 h2 h3 := key_trans h1.key h2.key h3.key
 anti h1 h2 := key_anti h1.key h2.key
 zero h1 h2 := cmp_iff h1.2.2 h2.2.2
def okF (e : Int × V) : Prop := e.2.kind ≠ 0 ∧ right e.2 = true
theorem rightF_iff : ∀ (fs : List (Int × V)) (last : Int), 0 ≤ last → (rightF last fs = true ↔ Srt ocmp KI fs ∧ ∀ e ∈ fs, last < e.1 ∧ okF e)
 | [], last, _ => by rw [rightF]; exact ⟨fun _ => ⟨⟨by simp, by simp⟩, by simp⟩, fun _ => rfl⟩
 | (n, v) :: r, last, h0 => by
  rw [rightF]
  simp only [Bool.and_eq_true, decide_eq_true_eq]
  constructor
  ·rintro ⟨⟨⟨h1, h2, h3⟩, h4⟩, h5⟩
   obtain ⟨hs, ho⟩ := (rightF_iff r n (by omega)).1 h5
   refine ⟨⟨fun e he => ?_, List.pairwise_cons.2 ⟨fun e he => ocmp_neg.2 (ho e he).1, hs.2⟩⟩, fun e he => ?_⟩
   ·rcases List.mem_cons.1 he with rfl | he
    ·exact ⟨by show 1 ≤ n; omega, h2⟩
    ·exact hs.1 e he
   ·rcases List.mem_cons.1 he with rfl | he
    ·exact ⟨h1, h3, h4⟩
    ·have := ho e he; exact ⟨by omega, this.2⟩
  ·rintro ⟨hs, ho⟩
   have h1 := ho (n, v) (by simp)
   have h2 := hs.1 (n, v) (by simp)
   refine ⟨⟨⟨h1.1, h2.2, h1.2.1⟩, h1.2.2⟩, (rightF_iff r n (by have := h2.1; show 0 ≤ n; have : 1 ≤ n := h2.1; omega)).2 ⟨Srt.tail ordI hs, fun e he => ⟨ocmp_neg.1 ((List.pairwise_cons.1 hs.2).1 e he), (ho e (by simp [he])).2⟩⟩⟩
def okP (e : V × V) : Prop := partB e.2 = true
theorem rightP_some : ∀ (ps : List (V × V)) (p : V), (KP p.kind p) → (rightP (some p) ps = true ↔ Srt cmp (KP p.kind) ps ∧ ∀ e ∈ ps, cmp p e.1 < 0 ∧ okP e)
 | [], p, _ => by rw [rightP]; exact ⟨fun _ => ⟨⟨by simp, by simp⟩, by simp⟩, fun _ => rfl⟩
 | (k, v) :: r, p, hp => by
  rw [rightP.eq_def]
  simp only [Bool.and_eq_true, decide_eq_true_eq]
  constructor
  ·rintro ⟨⟨⟨⟨h1, h2⟩, h3, h4⟩, h5, h6⟩, h7⟩
   have hk : KP k.kind k := ⟨rfl, h1, h2⟩
   obtain ⟨hs, ho⟩ := (rightP_some r k hk).1 h7
   rw [← h5] at hs hk
   refine ⟨⟨fun e he => ?_, List.pairwise_cons.2 ⟨fun e he => (ho e he).1, hs.2⟩⟩, fun e he => ?_⟩
   ·rcases List.mem_cons.1 he with rfl | he
    ·exact hk
    ·exact hs.1 e he
   ·rcases List.mem_cons.1 he with rfl | he
    ·exact ⟨h6, by unfold okP partB; simp [h3, h4]⟩
    ·have := ho e he; exact ⟨(ordP p.kind).trans hp hk (hs.1 e he) h6 this.1, this.2⟩
  ·rintro ⟨hs, ho⟩
   have h1 := ho (k, v) (by simp)
   have h2 : KP p.kind k := hs.1 (k, v) (by simp)
   have h3 := h1.2
   unfold okP partB at h3
   simp only [Bool.and_eq_true, decide_eq_true_eq] at h3
   have hk : KP k.kind k := ⟨rfl, h2.1 ▸ h2.2.1, h2.2.2⟩
   refine ⟨⟨⟨⟨hk.2.1, hk.2.2⟩, h3.1, h3.2⟩, h2.1.symm, h1.1⟩, (rightP_some r k hk).2 ⟨by rw [h2.1]; exact Srt.tail (ordP _) hs, fun e he => ⟨(List.pairwise_cons.1 hs.2).1 e he, (ho e (by simp [he])).2⟩⟩⟩
theorem rightP_none {ps : List (V × V)} (h : rightP none ps = true) : ps = [] ∨ ∃ kd, (∃ e, ps.head? = some e ∧ e.1.kind = kd) ∧ Srt cmp (KP kd) ps ∧ ∀ e ∈ ps, okP e := by
 cases ps with
 | nil => exact .inl rfl
 | cons e r =>
  obtain ⟨k, v⟩ := e
  right
  rw [rightP.eq_def] at h
  simp only [Bool.and_eq_true, decide_eq_true_eq] at h
  obtain ⟨⟨⟨⟨h1, h2⟩, h3, h4⟩, _⟩, h7⟩ := h
  have hk : KP k.kind k := ⟨rfl, h1, h2⟩
  obtain ⟨hs, ho⟩ := (rightP_some r k hk).1 h7
  refine ⟨k.kind, ⟨(k, v), rfl, rfl⟩, ⟨fun e he => ?_, List.pairwise_cons.2 ⟨fun e he => (ho e he).1, hs.2⟩⟩, fun e he => ?_⟩
  ·rcases List.mem_cons.1 he with rfl | he
   ·exact hk
   ·exact hs.1 e he
  ·rcases List.mem_cons.1 he with rfl | he
   ·unfold okP partB; simp [h3, h4]
   ·exact (ho e he).2
theorem rightP_of {ps : List (V × V)} {kd : Int} (hs : Srt cmp (KP kd) ps) (ho : ∀ e ∈ ps, okP e) : rightP none ps = true := by
 cases ps with
 | nil => rw [rightP]
 | cons e r =>
  obtain ⟨k, v⟩ := e
  have h2 : KP kd k := hs.1 (k, v) (by simp)
  have h3 := ho (k, v) (by simp)
  unfold okP partB at h3
  simp only [Bool.and_eq_true, decide_eq_true_eq] at h3
  have hk : KP k.kind k := ⟨rfl, h2.1 ▸ h2.2.1, h2.2.2⟩
  rw [rightP.eq_def]
  simp only [Bool.and_eq_true, decide_eq_true_eq]
  exact ⟨⟨⟨⟨hk.2.1, hk.2.2⟩, h3.1, h3.2⟩, trivial⟩, (rightP_some r k hk).2 ⟨by rw [h2.1]; exact Srt.tail (ordP _) hs, fun e he => ⟨(List.pairwise_cons.1 hs.2).1 e he, ho e (by simp [he])⟩⟩⟩
def mkM (fs : List (Int × V)) (r : ByteArray) : V := .mk 3 0 ByteArray.empty fs r [] []
def mkL (l : List V) : V := if l.length = 0 then v0 else .mk 4 0 ByteArray.empty [] ByteArray.empty l []
def mkP (ps : List (V × V)) : V := if ps.length = 0 then v0 else .mk 5 0 ByteArray.empty [] ByteArray.empty [] ps
theorem right_msg {v : V} (h : right v = true) (hk : v.kind = 3) : v = mkM v.fields v.rest ∧ rightF 0 v.fields = true := by
 obtain ⟨k, n, t, fs, r, l, ps⟩ := v
 simp only [V.kind] at hk; subst hk
 obtain ⟨a1, a2, a3, a4, a5, a6, a7⟩ := right_parts h
 simp at a1 a2 a5 a6 a7
 refine ⟨?_, a7⟩
 simp [mkM, V.fields, V.rest, *]
theorem right_mkM {fs : List (Int × V)} {r : ByteArray} : right (mkM fs r) = rightF 0 fs := by
 unfold mkM
 rw [right]; simp [bareV]
theorem right_v0 : right v0 = true := by unfold v0; rw [right]; simp [bareV]
theorem right_none {v : V} (h : right v = true) (hk : v.kind = 0) : v = v0 := by
 obtain ⟨k, n, t, fs, r, l, ps⟩ := v
 simp only [V.kind] at hk; subst hk
 obtain ⟨a1, a2, a3, a4, a5, a6, a7⟩ := right_parts h
 simp at a1 a2 a3 a4 a5 a6
 simp [v0, *]
theorem right_list {v : V} (h : right v = true) (hk : v.kind = 4 ∨ v.kind = 0) : v = mkL v.list ∧ rightL v.list = true := by
 rcases hk with hk | hk
 ·obtain ⟨k, n, t, fs, r, l, ps⟩ := v
  simp only [V.kind] at hk; subst hk
  obtain ⟨a1, a2, a3, a4, a5, a6, a7⟩ := right_parts h
  simp at a1 a2 a3 a4 a6 a7
  refine ⟨?_, a7.2⟩
  have : l.length ≠ 0 := by have := a7.1; omega
  simp [mkL, V.list, *]
 ·rw [right_none h hk]; exact ⟨by simp [mkL, V.list, v0], by simp [v0, V.list, rightL]⟩
theorem right_mkL {l : List V} (h : rightL l = true) : right (mkL l) = true := by
 unfold mkL
 split
 ·exact right_v0
 ·rw [right]; simp [bareV, h]; omega
theorem right_map {v : V} (h : right v = true) (hk : v.kind = 5 ∨ v.kind = 0) : v = mkP v.pairs ∧ rightP none v.pairs = true := by
 rcases hk with hk | hk
 ·obtain ⟨k, n, t, fs, r, l, ps⟩ := v
  simp only [V.kind] at hk; subst hk
  obtain ⟨a1, a2, a3, a4, a5, a6, a7⟩ := right_parts h
  simp at a1 a2 a3 a4 a5 a7
  refine ⟨?_, a7.2⟩
  have : ps.length ≠ 0 := by have := a7.1; omega
  simp [mkP, V.pairs, *]
 ·rw [right_none h hk]; exact ⟨by simp [mkP, V.pairs, v0], by simp [v0, V.pairs, rightP]⟩
theorem right_mkP {ps : List (V × V)} (h : rightP none ps = true) : right (mkP ps) = true := by
 unfold mkP
 split
 ·exact right_v0
 ·rw [right]; simp [bareV, h]; omega
theorem mkL_list (l : List V) : (mkL l).list = l := by
 unfold mkL; split
 ·rename_i h; simp [v0, V.list, List.eq_nil_of_length_eq_zero h]
 ·rfl
theorem mkP_pairs (l : List (V × V)) : (mkP l).pairs = l := by
 unfold mkP; split
 ·rename_i h; simp [v0, V.pairs, List.eq_nil_of_length_eq_zero h]
 ·rfl
theorem mkP_kind (l : List (V × V)) : (mkP l).kind = 5 ∨ (mkP l).kind = 0 := by
 unfold mkP; split
 ·right; rfl
 ·left; rfl
theorem get_look {v : V} (n : Int) (hk : v.kind = 3) : get v n = (look ocmp v.fields n).getD v0 := by
 rw [← look_eq ocmp 0]
 unfold get
 have e : hitF v.fields n = ghit ocmp 0 v.fields n := rfl
 have e2 : posF v.fields n = gpos ocmp 0 v.fields n := rfl
 rw [e, e2]
 by_cases h : ghit ocmp 0 v.fields n = true <;> simp [h, hk]
theorem with_ins {v : V} {n : Int} (x : V) (hr : right v = true) (hk : v.kind = 3) (hn : KI n) : withV v n x = mkM (ins ocmp v.fields n x) v.rest := by
 have e := (right_msg hr hk).1
 unfold withV
 rw [if_pos ⟨hk, hn⟩, ← ins_eq ocmp 0]
 conv => lhs; rw [e]
 rfl
theorem srt_fields {v : V} (hr : right v = true) (hk : v.kind = 3) : Srt ocmp KI v.fields ∧ ∀ e ∈ v.fields, okF e := by
 obtain ⟨h1, h2⟩ := (rightF_iff v.fields 0 (Int.le_refl _)).1 (right_msg hr hk).2
 exact ⟨h1, fun e he => (h2 e he).2⟩
theorem right_with {v x : V} {n : Int} (hr : right v = true) (hk : v.kind = 3) (hn : KI n) (hx : right x = true) : right (withV v n x) = true := by
 rw [with_ins x hr hk hn, right_mkM]
 obtain ⟨h1, h2⟩ := srt_fields hr hk
 refine (rightF_iff _ 0 (Int.le_refl _)).2 ⟨srt_ins ordI x h1 hn, fun e he => ?_⟩
 rcases mem_ins ordI he with he | ⟨rfl, hx0⟩
 ·have := (h1.1 e he).1; exact ⟨by omega, h2 e he⟩
 ·have := hn.1; exact ⟨by show 0 < n; omega, hx0, hx⟩
theorem right_get {v : V} {n : Int} (hr : right v = true) (hk : v.kind = 3) (hn : KI n) : right (get v n) = true := by
 rw [get_look n hk]
 obtain ⟨h1, h2⟩ := srt_fields hr hk
 cases h : look ocmp v.fields n with
 | none => exact right_v0
 | some y => exact (h2 _ (look_mem ordI h1 hn h)).2
theorem opt_v0 {x : V} (hx : right x = true) : ((if x.kind ≠ 0 then some x else none : Option V)).getD v0 = x := by
 by_cases h : x.kind = 0
 ·simp [h]; exact (right_none hx h).symm
 ·simp [h]
theorem kind_with {v x : V} {n : Int} (hk : v.kind = 3) : (withV v n x).kind = 3 := by
 unfold withV
 split
 ·exact hk
 ·exact hk
theorem rest_with {v x : V} {n : Int} : (withV v n x).rest = v.rest := by
 unfold withV
 split <;> rfl
theorem get_with {v x : V} {n : Int} (hr : right v = true) (hk : v.kind = 3) (hn : KI n) (hx : right x = true) : get (withV v n x) n = x := by
 rw [get_look n (kind_with hk), with_ins x hr hk hn]
 show (look ocmp (ins ocmp v.fields n x) n).getD v0 = x
 rw [look_ins_same ordI x (srt_fields hr hk).1 hn]
 exact opt_v0 hx
theorem get_with_ne {v x : V} {n m : Int} (hr : right v = true) (hk : v.kind = 3) (hn : KI n) (hm : KI m) (hne : m ≠ n) : get (withV v n x) m = get v m := by
 rw [get_look m (kind_with hk), with_ins x hr hk hn, get_look m hk]
 show (look ocmp (ins ocmp v.fields n x) m).getD v0 = _
 rw [look_ins_ne ordI x (srt_fields hr hk).1 hn hm hne]
theorem msg_ext {v w : V} (hv : right v = true) (hw : right w = true) (kv : v.kind = 3) (kw : w.kind = 3) (hr : v.rest = w.rest) (h : ∀ n, KI n → get v n = get w n) : v = w := by
 rw [(right_msg hv kv).1, (right_msg hw kw).1, hr]
 obtain ⟨v1, v2⟩ := srt_fields hv kv
 obtain ⟨w1, w2⟩ := srt_fields hw kw
 rw [srt_ext ordI v1 w1 (fun n hn => ?_)]
 have := h n hn
 rw [get_look n kv, get_look n kw] at this
 cases e1 : look ocmp v.fields n with
 | none =>
  cases e2 : look ocmp w.fields n with
  | none => rfl
  | some z =>
   rw [e1, e2] at this
   have h2 := (w2 _ (look_mem ordI w1 hn e2)).1
   have : v0 = z := this
   rw [← this] at h2
   exact absurd rfl h2
 | some y =>
  have h1 := (v2 _ (look_mem ordI v1 hn e1)).1
  cases e2 : look ocmp w.fields n with
  | none =>
   rw [e1, e2] at this
   have : y = v0 := this
   rw [this] at h1
   exact absurd rfl h1
  | some z =>
   rw [e1, e2] at this
   have : y = z := this
   rw [this]
theorem find_look {v : V} (k : V) (hr : right v = true) (hk : v.kind = 5 ∨ v.kind = 0) : find v k = (look cmp v.pairs k).getD v0 := by
 rw [← look_eq cmp v0]
 unfold find
 have e : hitP v.pairs k = ghit cmp v0 v.pairs k := rfl
 have e2 : posP v.pairs k = gpos cmp v0 v.pairs k := rfl
 rw [e, e2]
 rcases hk with hk | hk
 ·by_cases h : ghit cmp v0 v.pairs k = true <;> simp [h, hk]
 ·have e3 : v.pairs = [] := by rw [right_none hr hk]; rfl
  rw [e3]
  simp [ghit, hk]
theorem put_ins {v : V} {k : V} (x : V) (hk : v.kind = 5 ∨ v.kind = 0) : putV v k x = mkP (ins cmp v.pairs k x) := by
 unfold putV putP mkP
 rw [if_pos hk, ← ins_eq cmp v0]
 rfl
def KeysOf (kd : Int) (v : V) : Prop := (v.kind = 5 ∨ v.kind = 0) ∧ Srt cmp (KP kd) v.pairs ∧ ∀ e ∈ v.pairs, okP e
theorem keys_of {v k : V} (hr : right v = true) (hk : v.kind = 5 ∨ v.kind = 0) (h : v.pairs = [] ∨ ∃ e, v.pairs.head? = some e ∧ e.1.kind = k.kind) : KeysOf k.kind v := by
 refine ⟨hk, ?_⟩
 rcases rightP_none (right_map hr hk).2 with e | ⟨kd, ⟨e, h1, h2⟩, h3, h4⟩
 ·rw [e]; exact ⟨⟨by simp, by simp⟩, by simp⟩
 ·rcases h with h | ⟨e', h5, h6⟩
  ·rw [h] at h1; cases h1
  ·rw [h1] at h5; cases h5
   rw [← h6, h2]; exact ⟨h3, h4⟩
theorem right_find {v k : V} (hr : right v = true) (hv : KeysOf k.kind v) (hk : KP k.kind k) : right (find v k) = true := by
 rw [find_look k hr hv.1]
 cases h : look cmp v.pairs k with
 | none => exact right_v0
 | some y =>
  have := hv.2.2 _ (look_mem (ordP _) hv.2.1 hk h)
  unfold okP partB at this
  simp only [Bool.and_eq_true] at this
  exact this.2
theorem keys_put {v k x : V} {kd : Int} (hv : KeysOf kd v) (hk : KP kd k) (hx : x.kind = 0 ∨ partB x = true) : KeysOf kd (putV v k x) := by
 rw [put_ins x hv.1]
 refine ⟨mkP_kind _, ?_⟩
 rw [mkP_pairs]
 refine ⟨srt_ins (ordP kd) x hv.2.1 hk, fun e he => ?_⟩
 rcases mem_ins (ordP kd) he with he | ⟨rfl, hx0⟩
 ·exact hv.2.2 e he
 ·exact hx.resolve_left hx0
theorem right_keys {v : V} {kd : Int} (hv : KeysOf kd v) (hm : v = mkP v.pairs) : right v = true := by
 rw [hm]; exact right_mkP (rightP_of hv.2.1 hv.2.2)
theorem right_put {v k x : V} {kd : Int} (hv : KeysOf kd v) (hk : KP kd k) (hx : x.kind = 0 ∨ partB x = true) : right (putV v k x) = true := by
 refine right_keys (keys_put hv hk hx) ?_
 rw [put_ins x hv.1, mkP_pairs]
theorem find_put {v k x : V} {kd : Int} (hv : KeysOf kd v) (hk : KP kd k) (hx : x.kind = 0 ∨ partB x = true) (hx2 : right x = true) : find (putV v k x) k = x := by
 rw [find_look k (right_put hv hk hx) (keys_put hv hk hx).1, put_ins x hv.1, mkP_pairs, look_ins_same (ordP kd) x hv.2.1 hk]
 exact opt_v0 hx2
theorem find_put_ne {v k m x : V} {kd : Int} (hr : right v = true) (hv : KeysOf kd v) (hk : KP kd k) (hm : KP kd m) (hx : x.kind = 0 ∨ partB x = true) (hne : m ≠ k) : find (putV v k x) m = find v m := by
 rw [find_look m (right_put hv hk hx) (keys_put hv hk hx).1, find_look m hr hv.1, put_ins x hv.1, mkP_pairs, look_ins_ne (ordP kd) x hv.2.1 hk hm hne]
theorem map_ext {v w : V} {kd : Int} (rv : right v = true) (rw_ : right w = true) (hv : KeysOf kd v) (hw : KeysOf kd w) (h : ∀ n, KP kd n → find v n = find w n) : v = w := by
 rw [(right_map rv hv.1).1, (right_map rw_ hw.1).1]
 rw [srt_ext (ordP kd) hv.2.1 hw.2.1 (fun n hn => ?_)]
 have := h n hn
 rw [find_look n rv hv.1, find_look n rw_ hw.1] at this
 have ne : ∀ {y : V}, partB y = true → y ≠ v0 := fun {y} hy e => by
  subst e; unfold partB v0 at hy; simp [V.kind] at hy
 cases e1 : look cmp v.pairs n with
 | none =>
  cases e2 : look cmp w.pairs n with
  | none => rfl
  | some z =>
   rw [e1, e2] at this
   exact absurd (show z = v0 from this.symm) (ne (hw.2.2 _ (look_mem (ordP kd) hw.2.1 hn e2)))
 | some y =>
  cases e2 : look cmp w.pairs n with
  | none =>
   rw [e1, e2] at this
   exact absurd (show y = v0 from this) (ne (hv.2.2 _ (look_mem (ordP kd) hv.2.1 hn e1)))
  | some z =>
   rw [e1, e2] at this
   have : y = z := this
   rw [this]
theorem mono_fields {v : V} {n : Int} (hr : right v = true) (hk : v.kind = 3) (hn : KI n) : MonoN (cF v.fields n) v.fields.length :=
 srt_mono ordI 0 (srt_fields hr hk).1 hn
theorem mono_pairs {v k : V} {kd : Int} (hv : KeysOf kd v) (hk : KP kd k) : MonoN (cP v.pairs k) v.pairs.length :=
 srt_mono (ordP kd) v0 hv.2.1 hk
end Go.Proofs.YtebekgdjknenlaaGreatDoor.Val
