/- Plain facts: a file has no more types than tokens. -/
import Derived.Test.YtiofhfcohhfihaaGreatDoorSxTotal
import Derived.Test.YtiofhfcohhfihaaGreatDoorScPlain
namespace Go.Proofs.YtiofhfcohhfihaaGreatDoor.Sx
open Lx (Bs Tok)
open Sc (rawM rawMs rawEs raws)
set_option linter.unusedVariables false
set_option linter.unusedSimpArgs false

mutual
/-- the types within a message -/
def tyM : Msg → Nat
  | .mk nm fs os ms es rs ns li co => es.length + tyMs ms
def tyMs : List Msg → Nat
  | [] => 0
  | m :: r => tyM m + 1 + tyMs r
end
theorem tyMs_append : ∀ (a b : List Msg), tyMs (a ++ b) = tyMs a + tyMs b
  | [], b => by simp [tyMs]
  | m :: r, b => by rw [List.cons_append, tyMs, tyMs, tyMs_append r b]; omega
theorem rawEs_len (s : Bs) (l : List Enm) : (rawEs s l).length = l.length := by unfold rawEs; rw [List.length_map]
mutual
theorem rawM_len (s : Bs) : ∀ m, (rawM s m).length = tyM m + 1
  | .mk nm fs os ms es rs ns li co => by
    rw [rawM, tyM, List.length_cons, List.length_append, rawEs_len, rawMs_len (Sc.within s nm) ms]
theorem rawMs_len (s : Bs) : ∀ l, (rawMs s l).length = tyMs l
  | [] => by rw [rawMs, tyMs]; rfl
  | m :: r => by rw [rawMs, tyMs, List.length_append, rawM_len s m, rawMs_len s r]
end
variable (ts : List Tok)
theorem oneof_ty (m : Msg) (s : St) : tyM (oneof ts m s).1 = tyM m := by
  obtain ⟨nm, fs, os, ms, es, rs, ns, li, co⟩ := m
  unfold oneof; dsimp only; rw [tyM, tyM]
theorem reserved_ty (m : Msg) (s : St) : tyM (reserved ts m s).1 = tyM m := by
  obtain ⟨nm, fs, os, ms, es, rs, ns, li, co⟩ := m
  unfold reserved; dsimp only; split <;> rw [tyM, tyM]
theorem addF_ty (f : Fld) (m : Msg) : tyM (m.addF f) = tyM m := by
  obtain ⟨nm, fs, os, ms, es, rs, ns, li, co⟩ := m
  unfold Msg.addF; rw [tyM, tyM]
theorem addE_ty (f : Enm) (m : Msg) : tyM (m.addE f) = tyM m + 1 := by
  obtain ⟨nm, fs, os, ms, es, rs, ns, li, co⟩ := m
  unfold Msg.addE; rw [tyM, tyM]; simp; omega
theorem addM_ty (m k : Msg) : tyM (m.addM k) = tyM m + (tyM k + 1) := by
  obtain ⟨nm, fs, os, ms, es, rs, ns, li, co⟩ := m
  unfold Msg.addM; rw [tyM, tyM, tyMs_append]; simp [tyMs]; omega
structure GoodT (B : Nat → Msg → St → Msg × St) : Prop where
  goes : ∀ d m s, GoesN 0 s (B d m s).2
  had : ∀ d m s, Had (tyM m) (tyM (B d m s).1) s (B d m s).2
theorem messageBy_ty {B : Nat → Msg → St → Msg × St} (hB : GoodT B) (deep : Nat) (s : St) : Had 0 (tyM (messageBy ts B deep s).1) s (messageBy ts B deep s).2 := by
  have h1 : GoesN 0 s (sign ts 123 (deepAt deep (of ts 1 s).1 (of ts 1 s).2)) := ((of_go ts 1 s).trans (deepAt_go _ _ _)).then (sign_go ts 123 _) (by omega)
  have h2 := hB.had deep (.mk (of ts 1 s).1.text [] [] [] [] [] [] (of ts 1 s).1.line (of ts 1 s).1.col) (sign ts 123 (deepAt deep (of ts 1 s).1 (of ts 1 s).2))
  have h3 := hB.goes deep (.mk (of ts 1 s).1.text [] [] [] [] [] [] (of ts 1 s).1.line (of ts 1 s).1.col) (sign ts 123 (deepAt deep (of ts 1 s).1 (of ts 1 s).2))
  have h0 : tyM (.mk (of ts 1 s).1.text [] [] [] [] [] [] (of ts 1 s).1.line (of ts 1 s).1.col) = 0 := by rw [tyM]; rfl
  rw [h0] at h2
  exact (Had.same h1).trans h2 h3
theorem part_ty {B : Nat → Msg → St → Msg × St} (hB : GoodT B) (deep : Nat) (m : Msg) (s : St) : Had (tyM m) (tyM (part ts B deep m s).1) s (part ts B deep m s).2 := by
  have n0 : Had (tyM m) (tyM m) s s.next := Had.same ((GoesN.next s).mono (by omega))
  have m1 := messageBy_ty ts hB (deep + 1) s.next; have m2 := messageBy_go ts hB.goes (deep + 1) s.next
  have e2 := enum_go ts s.next
  have o1 := oneof_ty ts m s.next; have o2 := oneof_go ts m s.next
  have r1 := reserved_ty ts m s.next; have r2 := reserved_go ts m s.next
  have f1 := field_go ts 3 0 s.next
  have g1 := field_go ts 2 0 s.next
  have p1 := mapped_go ts s.next
  have q1 := field_go ts 1 0 s
  unfold part
  generalize messageBy ts B (deep + 1) s.next = x1 at *
  generalize enum ts s.next = x2 at *
  generalize oneof ts m s.next = x3 at *
  generalize reserved ts m s.next = x4 at *
  generalize field ts 3 0 s.next = x5 at *
  generalize field ts 2 0 s.next = x6 at *
  generalize mapped ts s.next = x7 at *
  generalize field ts 1 0 s = x8 at *
  have addf : ∀ (y : Fld × St), GoesN 1 s.next y.2 → Had (tyM m) (tyM (m.addF y.1)) s y.2 := fun y hy => by
    rw [addF_ty]
    exact n0.trans (Had.same (hy.mono (by omega))) (hy.mono (by omega))
  split
  · show Had (tyM m) (tyM (m.addM x1.1)) s x1.2
    rw [addM_ty]
    intro e
    have h1 := m1 e; have h2 := m2 e; have h3 := n0 h2.1
    have h4 : s.next.pos = s.pos + 1 := rfl
    omega
  split
  · show Had (tyM m) (tyM (m.addE x2.1)) s x2.2
    rw [addE_ty]
    exact n0.trans (Had.one e2) (e2.mono (by omega))
  split
  · rw [o1]; exact n0.trans (Had.same (o2.mono (by omega))) (o2.mono (by omega))
  split
  · rw [r1]; exact n0.trans (Had.same (r2.mono (by omega))) (r2.mono (by omega))
  split
  · exact addf x5 f1
  split
  · exact addf x6 g1
  split
  · exact addf x7 p1
  · show Had (tyM m) (tyM (m.addF x8.1)) s x8.2
    rw [addF_ty]; exact Had.same (q1.mono (by omega))
theorem parts_ty (n : Nat) : GoodT (parts ts n) := by
  induction n with
  | zero => exact ⟨fun d m s => GoesN.refl s, fun d m s => Had.same (GoesN.refl s)⟩
  | succ n ih =>
    refine ⟨parts_go ts (n + 1), fun d m s => ?_⟩
    have h1 := Had.same (a := tyM m) (more_go ts s)
    have h2 := part_ty ts ih d m (more ts s).2
    have h2g := part_go ts ih.goes d m (more ts s).2
    have h3 := ih.had d (part ts (parts ts n) d m (more ts s).2).1 (part ts (parts ts n) d m (more ts s).2).2
    have h3g := ih.goes d (part ts (parts ts n) d m (more ts s).2).1 (part ts (parts ts n) d m (more ts s).2).2
    unfold parts
    generalize part ts (parts ts n) d m (more ts s).2 = r at *
    generalize more ts s = q at *
    obtain ⟨b, s1⟩ := q
    cases b
    · exact h1
    · exact (h1.trans h2 (h2g.mono (by omega))).trans h3 h3g
def tyF (f : Fil) : Nat := f.enums.length + tyMs f.msgs
theorem files_ty : ∀ (n : Nat) (f : Fil) (s : St), Had (tyF f) (tyF (files ts n f s).1) s (files ts n f s).2 ∧ GoesN 0 s (files ts n f s).2 := by
  intro n
  induction n with
  | zero => exact fun f s => ⟨Had.same (GoesN.refl s), GoesN.refl s⟩
  | succ n ih =>
    intro f s
    have i1 := ih f s.next
    have m1 := messageBy_ty ts (parts_ty ts (ts.length + 2)) 0 s.next; have m2 := messageBy_go ts (parts_go ts (ts.length + 2)) 0 s.next
    have i2 := ih { f with msgs := f.msgs ++ [(message ts 0 s.next).1] } (message ts 0 s.next).2
    have e2 := enum_go ts s.next
    have i3 := ih { f with enums := f.enums ++ [(enum ts s.next).1] } (enum ts s.next).2
    have i4 := ih f (fail ts s)
    have f1 := fail_goes ts 0 s
    unfold files
    change Had 0 (tyM (message ts 0 s.next).1) s.next (message ts 0 s.next).2 at m1
    change GoesN 1 s.next (message ts 0 s.next).2 at m2
    generalize message ts 0 s.next = x1 at *
    generalize enum ts s.next = x2 at *
    have h4 : s.next.pos = s.pos + 1 := rfl
    split
    · exact ⟨Had.same (GoesN.refl s), GoesN.refl s⟩
    split
    · exact ⟨(Had.same ((GoesN.next s).mono (by omega))).trans i1.1 i1.2, (GoesN.next s).then i1.2 (by omega)⟩
    split
    · refine ⟨fun e => ?_, ((GoesN.next s).trans m2).then i2.2 (by omega)⟩
      have h1 := i2.1 e
      have h2 := i2.2 e
      have h3 := m1 h2.1
      unfold tyF at h1 ⊢
      dsimp only at h1
      rw [tyMs_append] at h1
      simp only [tyMs] at h1
      omega
    split
    · refine ⟨fun e => ?_, ((GoesN.next s).trans e2).then i3.2 (by omega)⟩
      have h1 := i3.1 e
      have h2 := i3.2 e
      have h3 := e2 h2.1
      unfold tyF at h1 ⊢
      dsimp only at h1
      rw [List.length_append] at h1
      simp only [List.length_cons, List.length_nil] at h1
      omega
    · exact ⟨(Had.same f1).trans i4.1 i4.2, f1.then i4.2 (by omega)⟩
theorem raws_len (f : Fil) : (raws f).length = tyF f := by unfold raws tyF; rw [List.length_append, rawEs_len, rawMs_len]
/-- a file has no more types than tokens -/
theorem parse_ty : (raws (parse ts).1).length ≤ ts.length := by
  rw [raws_len]
  unfold parse
  dsimp only
  split
  · exact Nat.zero_le _
  · rename_i h
    have hg := files_ty ts (ts.length + 2) ⟨(head ts ⟨0, none⟩).1, [], []⟩ (head ts ⟨0, none⟩).2
    have he : (files ts (ts.length + 2) ⟨(head ts ⟨0, none⟩).1, [], []⟩ (head ts ⟨0, none⟩).2).2.err = none := by simpa using h
    have h1 := hg.1 he
    have h2 := (files_good ts (ts.length + 2) ⟨(head ts ⟨0, none⟩).1, [], []⟩ (head ts ⟨0, none⟩).2).2.1 (head_in ts ⟨0, none⟩ (Nat.zero_le _))
    unfold tyF at h1
    simp only [tyMs, List.length_nil] at h1
    unfold tyF
    show (files ts (ts.length + 2) ⟨(head ts ⟨0, none⟩).1, [], []⟩ (head ts ⟨0, none⟩).2).1.enums.length + tyMs (files ts (ts.length + 2) ⟨(head ts ⟨0, none⟩).1, [], []⟩ (head ts ⟨0, none⟩).2).1.msgs ≤ _
    omega

end Go.Proofs.YtiofhfcohhfihaaGreatDoor.Sx
