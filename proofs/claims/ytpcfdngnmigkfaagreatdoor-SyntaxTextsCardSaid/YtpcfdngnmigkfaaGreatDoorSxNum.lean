/- Plain facts: which numbers the parser's faults have. -/
import Derived.Test.YtpcfdngnmigkfaaGreatDoorGroupB
set_option linter.unusedVariables false
set_option linter.unusedSimpArgs false
namespace Go.Proofs.YtpcfdngnmigkfaaGreatDoor.Sx
open Lx (Bs Tok)
def Num (s : St) : Prop := ∀ x, s.err = some x → x.1 = 8 ∨ x.1 = 9
def KeepN (n : Nat) (s s' : St) : Prop := Num s → Num s'
theorem KeepN.trans {n m : Nat} {a b c : St} (h : KeepN n a b) (k : KeepN m b c) : KeepN (n + m) a c := fun e => k (h e)
theorem KeepN.mono {n m : Nat} {a b : St} (h : KeepN n a b) (hm : m ≤ n) : KeepN m a b := h
theorem KeepN.then {n m k : Nat} {a b c : St} (h : KeepN n a b) (q : KeepN m b c) (hk : k ≤ n + m) : KeepN k a c := fun e => q (h e)
theorem KeepN.refl (s : St) : KeepN 0 s s := fun e => e
theorem KeepN.next (s : St) : KeepN 1 s s.next := fun e => e
variable (ts : List Tok)
theorem fail_num (n : Nat) (s : St) : KeepN n s (fail ts s) := fun e => by
 unfold fail
 split
 ·exact e
 ·exact fun x hx => by cases hx; exact .inr rfl
theorem of_num (k : Nat) (s : St) : KeepN 1 s (of ts k s).2 := by
 unfold of; split
 ·exact KeepN.next s
 ·exact fail_num ts 1 s
theorem must_num (k : Nat) (t : Bs) (s : St) : KeepN 1 s (must ts k t s) := by
 unfold must; split
 ·exact KeepN.next s
 ·exact fail_num ts 1 s
theorem sign_num (b : UInt8) (s : St) : KeepN 1 s (sign ts b s) := must_num ts _ _ s
theorem dots_num : ∀ (n : Nat) (a : Bs) (s : St), KeepN 0 s (dots ts n a s).2
 | 0, a, s => KeepN.refl s
 | n + 1, a, s => by
  rw [dots]; split
  ·exact (((KeepN.next s).trans (of_num ts 1 s.next)).trans (dots_num n _ _)).mono (by omega)
  ·exact KeepN.refl s
theorem dotted_num (s : St) : KeepN 1 s (dotted ts s).2 := (of_num ts 1 s).then (dots_num ts _ _ _) (by omega)
theorem typ_num (s : St) : KeepN 1 s (typ ts s).2 := by
 unfold typ; split
 ·exact (KeepN.next s).then (dotted_num ts _) (by omega)
 ·exact dotted_num ts s
theorem option_num (f : Fld) (s : St) : KeepN 1 s (option ts f s).2 := by
 unfold option; split
 ·split
  ·exact (KeepN.next s).then ((sign_num ts 61 s.next).then (KeepN.next _) (Nat.le_refl _)) (by omega)
  ·exact (KeepN.next s).then ((sign_num ts 61 s.next).then (must_num ts _ _ _) (Nat.le_refl _)) (by omega)
 ·split
  ·exact (KeepN.next s).then ((sign_num ts 61 s.next).then (of_num ts _ _) (Nat.le_refl _)) (by omega)
  ·exact fail_num ts 1 s
theorem options_num : ∀ (n : Nat) (f : Fld) (s : St), KeepN 0 s (options ts n f s).2
 | 0, f, s => KeepN.refl s
 | n + 1, f, s => by
  rw [options]; split
  ·exact (((KeepN.next s).trans (option_num ts f s.next)).trans (options_num n _ _)).mono (by omega)
  ·exact KeepN.refl s
theorem restN_num (f : Fld) (s : St) : KeepN 3 s (restN ts f s).2 := ((of_num ts 1 s).trans (sign_num ts 61 _)).trans (of_num ts 2 _)
theorem restO_num (f : Fld) (s : St) : KeepN 0 s (restO ts f s).2 := by
 unfold restO; split
 ·exact (((KeepN.next s).trans (option_num ts f s.next)).trans (options_num ts _ _ _)).then (sign_num ts 93 _) (by omega)
 ·exact KeepN.refl s
theorem rest_num (f : Fld) (s : St) : KeepN 1 s (rest ts f s).2 := ((restN_num ts f s).trans (restO_num ts _ _)).then (sign_num ts 59 _) (by omega)
theorem field_num (a b : Nat) (s : St) : KeepN 1 s (field ts a b s).2 := (typ_num ts s).then (rest_num ts _ _) (by omega)
theorem mapK_num (s : St) : KeepN 1 s (mapK ts s).2 := ((sign_num ts 60 s).trans (of_num ts 1 _)).then (sign_num ts 44 _) (by omega)
theorem mapped_num (s : St) : KeepN 1 s (mapped ts s).2 := ((mapK_num ts s).trans (typ_num ts _)).then ((sign_num ts 62 _).trans (rest_num ts _ _)) (by omega)
theorem semis_num : ∀ (n : Nat) (s : St), KeepN 0 s (semis ts n s)
 | 0, s => KeepN.refl s
 | n + 1, s => by
  rw [semis]; split
  ·exact (KeepN.next s).then (semis_num n s.next) (by omega)
  ·exact KeepN.refl s
theorem more_num (s : St) : KeepN 0 s (more ts s).2 := by
 unfold more; split
 ·exact semis_num ts _ s
 ·split
  ·exact (semis_num ts _ s).then (KeepN.next _) (by omega)
  ·exact semis_num ts _ s
theorem early_num (b : Bool) (s : St) : KeepN 0 s (early ts b s) := by
 unfold early; split
 ·exact KeepN.refl s
 ·split
  ·exact KeepN.refl s
  ·exact fun e => fail_num ts 1 s.back e
theorem range_num (s : St) : KeepN 1 s (range ts s).2 := by
 unfold range; dsimp only; split
 ·split
  ·exact (of_num ts 2 s).then ((KeepN.next _).trans (KeepN.next _)) (by omega)
  ·exact (of_num ts 2 s).then ((KeepN.next _).trans (of_num ts 2 _)) (by omega)
 ·exact of_num ts 2 s
theorem takes_num (k : Nat) (t : Bs) (s : St) : KeepN 0 s (takes ts k t s).2 := by
 unfold takes; split
 ·exact (KeepN.next s).mono (by omega)
 ·exact KeepN.refl s
theorem value_num (s : St) : KeepN 1 s (value ts s).2 := by
 unfold value; dsimp only
 exact (((of_num ts 1 s).trans (sign_num ts 61 _)).trans (takes_num ts 4 [45] _)).then ((of_num ts 2 _).trans (sign_num ts 59 _)) (by omega)
theorem values_num : ∀ (n : Nat) (l : List Val) (s : St), KeepN 0 s (values ts n l s).2
 | 0, l, s => KeepN.refl s
 | n + 1, l, s => by
  rw [values]; split
  ·exact (((more_num ts s).trans (value_num ts _)).trans (values_num n _ _)).mono (by omega)
  ·exact more_num ts s
theorem enum_num (s : St) : KeepN 1 s (enum ts s).2 := by
 unfold enum; dsimp only
 exact ((of_num ts 1 s).trans (sign_num ts 123 _)).then ((values_num ts _ _ _).trans (early_num ts _ _)) (by omega)
theorem deepAt_num (d : Nat) (t : Tok) (s : St) : KeepN 0 s (deepAt d t s) := by
 unfold deepAt; split
 ·exact KeepN.refl s
 ·split
  ·exact fun _ x hx => by cases hx; exact .inl rfl
  ·exact KeepN.refl s
theorem oneofs_num : ∀ (n k : Nat) (l : List Fld) (s : St), KeepN 0 s (oneofs ts n k l s).2
 | 0, k, l, s => KeepN.refl s
 | n + 1, k, l, s => by
  rw [oneofs]; split
  ·exact (((more_num ts s).trans (field_num ts _ _ _)).trans (oneofs_num n _ _ _)).mono (by omega)
  ·exact more_num ts s
theorem oneof_num (m : Msg) (s : St) : KeepN 1 s (oneof ts m s).2 := by
 obtain ⟨nm, fs, os, ms, es, rs, ns, li, co⟩ := m
 unfold oneof; dsimp only
 exact ((of_num ts 1 s).trans (sign_num ts 123 _)).then ((oneofs_num ts _ _ _ _).trans (early_num ts _ _)) (by omega)
theorem resNames_num : ∀ (n : Nat) (l : List Bs) (s : St), KeepN 0 s (resNames ts n l s).2
 | 0, l, s => KeepN.refl s
 | n + 1, l, s => by
  rw [resNames]; split
  ·exact (((of_num ts 3 s).trans (KeepN.next _)).trans (resNames_num n _ _)).mono (by omega)
  ·exact (of_num ts 3 s).mono (by omega)
theorem resRanges_num : ∀ (n : Nat) (l : List Rng) (s : St), KeepN 0 s (resRanges ts n l s).2
 | 0, l, s => KeepN.refl s
 | n + 1, l, s => by
  rw [resRanges]; split
  ·exact (((range_num ts s).trans (KeepN.next _)).trans (resRanges_num n _ _)).mono (by omega)
  ·exact (range_num ts s).mono (by omega)
theorem reserved_num (m : Msg) (s : St) : KeepN 1 s (reserved ts m s).2 := by
 obtain ⟨nm, fs, os, ms, es, rs, ns, li, co⟩ := m
 unfold reserved; dsimp only; split
 ·exact (resNames_num ts _ _ s).then (sign_num ts 59 _) (by omega)
 ·exact (resRanges_num ts _ _ s).then (sign_num ts 59 _) (by omega)
theorem messageBy_num {B : Nat → Msg → St → Msg × St} (hB : ∀ d m s, KeepN 0 s (B d m s).2) (deep : Nat) (s : St) : KeepN 1 s (messageBy ts B deep s).2 := by
 unfold messageBy
 exact ((of_num ts 1 s).trans (deepAt_num _ _ _)).then ((sign_num ts 123 _).trans (hB _ _ _)) (by omega)
theorem part_num {B : Nat → Msg → St → Msg × St} (hB : ∀ d m s, KeepN 0 s (B d m s).2) (deep : Nat) (m : Msg) (s : St) : KeepN 1 s (part ts B deep m s).2 := by
 have h1 := (KeepN.next s).then (messageBy_num ts hB (deep + 1) s.next) (k := 1) (by omega)
 have h2 := (KeepN.next s).then (enum_num ts s.next) (k := 1) (by omega)
 have h3 := (KeepN.next s).then (oneof_num ts m s.next) (k := 1) (by omega)
 have h4 := (KeepN.next s).then (reserved_num ts m s.next) (k := 1) (by omega)
 have h5 := (KeepN.next s).then (field_num ts 3 0 s.next) (k := 1) (by omega)
 have h6 := (KeepN.next s).then (field_num ts 2 0 s.next) (k := 1) (by omega)
 have h7 := (KeepN.next s).then (mapped_num ts s.next) (k := 1) (by omega)
 have h8 := field_num ts 1 0 s
 unfold part
 generalize messageBy ts B (deep + 1) s.next = r1 at *
 generalize enum ts s.next = r2 at *
 generalize oneof ts m s.next = r3 at *
 generalize reserved ts m s.next = r4 at *
 generalize field ts 3 0 s.next = r5 at *
 generalize field ts 2 0 s.next = r6 at *
 generalize mapped ts s.next = r7 at *
 generalize field ts 1 0 s = r8 at *
 split
 ·exact h1
 ·split
  ·exact h2
  ·split
   ·exact h3
   ·split
    ·exact h4
    ·split
     ·exact h5
     ·split
      ·exact h6
      ·split
       ·exact h7
       ·exact h8
theorem parts_num (n : Nat) : ∀ (d : Nat) (m : Msg) (s : St), KeepN 0 s (parts ts n d m s).2 := by
 induction n with
 | zero => exact fun d m s => KeepN.refl s
 | succ n ih =>
  intro d m s
  have h := more_num ts s
  have h2 := part_num ts (B := parts ts n) ih d m (more ts s).2
  have h3 := ih d (part ts (parts ts n) d m (more ts s).2).1 (part ts (parts ts n) d m (more ts s).2).2
  unfold parts
  generalize part ts (parts ts n) d m (more ts s).2 = r at *
  generalize more ts s = q at *
  obtain ⟨b, s1⟩ := q
  cases b
  ·exact h
  ·exact (h.trans h2).then h3 (by omega)
theorem headV_num (s : St) : KeepN 0 s (headV ts s) := by
 unfold headV; split
 ·exact KeepN.refl s
 ·exact fail_num ts 0 s
theorem head_num (s : St) : KeepN 0 s (head ts s).2 := by
 have h1 : Num s → Num (sign ts 59 (of ts 3 (headV ts (sign ts 61 (must ts 1 bSyntax s)))).2) := fun e => sign_num ts 59 _ (of_num ts 3 _ (headV_num ts _ (sign_num ts 61 _ (must_num ts 1 bSyntax s e))))
 intro e
 have h2 := h1 e
 unfold head; dsimp only
 generalize sign ts 59 (of ts 3 (headV ts (sign ts 61 (must ts 1 bSyntax s)))).2 = a at *
 split
 ·exact sign_num ts 59 _ (dotted_num ts a.next h2)
 ·exact h2
theorem files_num : ∀ (n : Nat) (f : Fil) (s : St), KeepN 0 s (files ts n f s).2
 | 0, f, s => KeepN.refl s
 | n + 1, f, s => by
  rw [files]; split
  ·exact KeepN.refl s
  ·split
   ·exact fun e => files_num n _ _ e
   ·split
    ·exact fun e => files_num n _ _ (messageBy_num ts (parts_num ts _) _ _ e)
    ·split
     ·exact fun e => files_num n _ _ (enum_num ts _ e)
     ·exact fun e => files_num n _ _ (fail_num ts 0 s e)
theorem parse_num {x : Nat × Nat × Nat} (h : (parse ts).2 = some x) : (x.1 = 8 ∨ x.1 = 9) ∧ (parse ts).1 = ⟨[], [], []⟩ := by
 have h1 : Num (files ts (ts.length + 2) ⟨(head ts ⟨0, none⟩).1, [], []⟩ (head ts ⟨0, none⟩).2).2 := files_num ts _ _ _ (head_num ts ⟨0, none⟩ (fun x hx => by cases hx))
 unfold parse at h ⊢
 dsimp only at h ⊢
 split at h
 ·rename_i c; rw [if_pos c]; exact ⟨h1 x h, rfl⟩
 ·cases h
end Go.Proofs.YtpcfdngnmigkfaaGreatDoor.Sx
