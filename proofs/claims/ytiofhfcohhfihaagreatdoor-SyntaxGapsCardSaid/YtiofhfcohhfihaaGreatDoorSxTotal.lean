/- Plain facts: no place lies behind the tokens; no more fields than tokens. -/
import Derived.Test.YtiofhfcohhfihaaGreatDoorGroupB
import Derived.Test.YtiofhfcohhfihaaGreatDoorGroupD
namespace Go.Proofs.YtiofhfcohhfihaaGreatDoor.Sx
open Lx (Bs Tok)
set_option linter.unusedVariables false
set_option linter.unusedSimpArgs false

/-- the place stays among the tokens -/
def In (ts : List Tok) (s s' : St) : Prop := s.pos ≤ ts.length → s'.pos ≤ ts.length
variable (ts : List Tok)
theorem next_in {k : Nat} (hk : k ≠ 0) {t : Bs} {s : St} (h : sees ts k t s = true) : In ts s s.next := fun _ => by
  have := (sees_here hk h).2
  exact this
theorem fail_in (s : St) : In ts s (fail ts s) := fun h => by unfold fail; split <;> exact h
theorem of_in {k : Nat} (hk : k ≠ 0) (s : St) : In ts s (of ts k s).2 := by
  unfold of; split
  · rename_i h; exact fun _ => (kind_here hk h).2
  · exact fail_in ts s
theorem must_in {k : Nat} (hk : k ≠ 0) (t : Bs) (s : St) : In ts s (must ts k t s) := by
  unfold must; split
  · rename_i h; exact next_in ts hk h
  · exact fail_in ts s
theorem sign_in (b : UInt8) (s : St) : In ts s (sign ts b s) := must_in ts (by decide) _ s
theorem dots_in : ∀ (n : Nat) (a : Bs) (s : St), In ts s (dots ts n a s).2
  | 0, a, s => fun h => h
  | n + 1, a, s => by
    rw [dots]; split
    · rename_i h; exact fun q => dots_in n _ _ (of_in ts (by decide) _ (next_in ts (by decide) h q))
    · exact fun h => h
theorem dotted_in (s : St) : In ts s (dotted ts s).2 := fun h => dots_in ts _ _ _ (of_in ts (by decide) s h)
theorem typ_in (s : St) : In ts s (typ ts s).2 := by
  unfold typ; split
  · rename_i h; exact fun q => dotted_in ts _ (next_in ts (by decide) h q)
  · exact dotted_in ts s
theorem option_in (f : Fld) (s : St) : In ts s (option ts f s).2 := by
  unfold option; split
  · rename_i h
    split
    · rename_i h2; exact fun q => next_in ts (by decide) h2 (sign_in ts _ _ (next_in ts (by decide) h.2 q))
    · exact fun q => must_in ts (by decide) _ _ (sign_in ts _ _ (next_in ts (by decide) h.2 q))
  · split
    · rename_i h; exact fun q => of_in ts (by decide) _ (sign_in ts _ _ (next_in ts (by decide) h.2 q))
    · exact fail_in ts s
theorem options_in : ∀ (n : Nat) (f : Fld) (s : St), In ts s (options ts n f s).2
  | 0, f, s => fun h => h
  | n + 1, f, s => by
    rw [options]; split
    · rename_i h; exact fun q => options_in n _ _ (option_in ts f _ (next_in ts (by decide) h q))
    · exact fun h => h
theorem restN_in (f : Fld) (s : St) : In ts s (restN ts f s).2 := fun q => of_in ts (by decide) _ (sign_in ts _ _ (of_in ts (by decide) s q))
theorem restO_in (f : Fld) (s : St) : In ts s (restO ts f s).2 := by
  unfold restO; split
  · rename_i h; exact fun q => sign_in ts _ _ (options_in ts _ _ _ (option_in ts f _ (next_in ts (by decide) h q)))
  · exact fun h => h
theorem rest_in (f : Fld) (s : St) : In ts s (rest ts f s).2 := fun q => sign_in ts _ _ (restO_in ts _ _ (restN_in ts f s q))
theorem field_in (a b : Nat) (s : St) : In ts s (field ts a b s).2 := fun q => rest_in ts _ _ (typ_in ts s q)
theorem mapK_in (s : St) : In ts s (mapK ts s).2 := fun q => sign_in ts _ _ (of_in ts (by decide) _ (sign_in ts _ s q))
theorem mapped_in (s : St) : In ts s (mapped ts s).2 := fun q => rest_in ts _ _ (sign_in ts _ _ (typ_in ts _ (mapK_in ts s q)))
theorem semis_in : ∀ (n : Nat) (s : St), In ts s (semis ts n s)
  | 0, s => fun h => h
  | n + 1, s => by
    rw [semis]; split
    · rename_i h; exact fun q => semis_in n _ (next_in ts (by decide) h q)
    · exact fun h => h
theorem more_in (s : St) : In ts s (more ts s).2 := by
  unfold more; split
  · exact semis_in ts _ s
  · split
    · rename_i h; exact fun q => next_in ts (by decide) h (semis_in ts _ s q)
    · exact semis_in ts _ s
theorem early_in (b : Bool) (s : St) : In ts s (early ts b s) := fun q => by
  unfold early; split
  · exact q
  · split
    · exact q
    · exact fail_in ts _ (Nat.le_trans (Nat.sub_le _ _) q)
theorem oneofs_in : ∀ (n k : Nat) (l : List Fld) (s : St), In ts s (oneofs ts n k l s).2
  | 0, k, l, s => fun h => h
  | n + 1, k, l, s => by
    rw [oneofs]; split
    · exact fun q => oneofs_in n _ _ _ (field_in ts _ _ _ (more_in ts s q))
    · exact more_in ts s
theorem oneof_in (m : Msg) (s : St) : In ts s (oneof ts m s).2 := by
  obtain ⟨nm, fs, os, ms, es, rs, ns, li, co⟩ := m
  unfold oneof; dsimp only
  exact fun q => early_in ts _ _ (oneofs_in ts _ _ _ _ (sign_in ts _ _ (of_in ts (by decide) s q)))
theorem resNames_in : ∀ (n : Nat) (l : List Bs) (s : St), In ts s (resNames ts n l s).2
  | 0, l, s => fun h => h
  | n + 1, l, s => by
    rw [resNames]; split
    · rename_i h; exact fun q => resNames_in n _ _ (next_in ts (by decide) h (of_in ts (by decide) s q))
    · exact of_in ts (by decide) s
theorem range_in (s : St) : In ts s (range ts s).2 := by
  unfold range; dsimp only; split
  · rename_i h1
    split
    · rename_i h2; exact fun q => next_in ts (by decide) h2 (next_in ts (by decide) h1 (of_in ts (by decide) s q))
    · exact fun q => of_in ts (by decide) _ (next_in ts (by decide) h1 (of_in ts (by decide) s q))
  · exact of_in ts (by decide) s
theorem resRanges_in : ∀ (n : Nat) (l : List Rng) (s : St), In ts s (resRanges ts n l s).2
  | 0, l, s => fun h => h
  | n + 1, l, s => by
    rw [resRanges]; split
    · rename_i h; exact fun q => resRanges_in n _ _ (next_in ts (by decide) h (range_in ts s q))
    · exact range_in ts s
theorem reserved_in (m : Msg) (s : St) : In ts s (reserved ts m s).2 := by
  obtain ⟨nm, fs, os, ms, es, rs, ns, li, co⟩ := m
  unfold reserved; dsimp only; split
  · exact fun q => sign_in ts _ _ (resNames_in ts _ _ s q)
  · exact fun q => sign_in ts _ _ (resRanges_in ts _ _ s q)
theorem takes_in {k : Nat} (hk : k ≠ 0) (t : Bs) (s : St) : In ts s (takes ts k t s).2 := by
  unfold takes; split
  · rename_i h; exact next_in ts hk h
  · exact fun h => h
theorem value_in (s : St) : In ts s (value ts s).2 := by
  unfold value; dsimp only
  exact fun q => sign_in ts _ _ (of_in ts (by decide) _ (takes_in ts (by decide) _ _ (sign_in ts _ _ (of_in ts (by decide) s q))))
theorem values_in : ∀ (n : Nat) (l : List Val) (s : St), In ts s (values ts n l s).2
  | 0, l, s => fun h => h
  | n + 1, l, s => by
    rw [values]; split
    · exact fun q => values_in n _ _ (value_in ts _ (more_in ts s q))
    · exact more_in ts s
theorem enum_in (s : St) : In ts s (enum ts s).2 := by
  unfold enum; dsimp only
  exact fun q => early_in ts _ _ (values_in ts _ _ _ (sign_in ts _ _ (of_in ts (by decide) s q)))
theorem deepAt_in (d : Nat) (t : Tok) (s : St) : In ts s (deepAt d t s) := fun q => by
  unfold deepAt; split
  · exact q
  · split <;> exact q

/-- fields that were had, against places -/
def Had (n n' : Nat) (s s' : St) : Prop := s'.err = none → n' + s.pos ≤ n + s'.pos
theorem Had.trans {a b c : Nat} {s t u : St} (h : Had a b s t) (k : Had b c t u) (g : GoesN 0 t u) : Had a c s u := fun e => by
  have h1 := k e; have h2 := h (g e).1; omega
theorem Had.same {a : Nat} {s t : St} (g : GoesN 0 s t) : Had a a s t := fun e => by have := (g e).2; omega
theorem Had.one {a : Nat} {s t : St} (g : GoesN 1 s t) : Had a (a + 1) s t := fun e => by have := (g e).2; omega
theorem oneofs_had : ∀ (n k : Nat) (l : List Fld) (s : St), Had l.length (oneofs ts n k l s).1.length s (oneofs ts n k l s).2
  | 0, k, l, s => Had.same (GoesN.refl s)
  | n + 1, k, l, s => by
    rw [oneofs]; split
    · have h := oneofs_had n k (l ++ [(field ts 1 k (more ts s).2).1]) (field ts 1 k (more ts s).2).2
      have hl : (l ++ [(field ts 1 k (more ts s).2).1]).length = l.length + 1 := by simp
      rw [hl] at h
      exact ((Had.same (more_go ts s)).trans (Had.one (field_go ts 1 k _)) ((field_go ts 1 k _).mono (by omega))).trans h (oneofs_go ts n k _ _)
    · exact Had.same (more_go ts s)
theorem oneof_had (m : Msg) (s : St) : Had (cntM m) (cntM (oneof ts m s).1) s (oneof ts m s).2 := by
  obtain ⟨nm, fs, os, ms, es, rs, ns, li, co⟩ := m
  have h1 : GoesN 0 s (sign ts 123 (of ts 1 s).2) := (of_go ts 1 s).then (sign_go ts 123 _) (by omega)
  have h2 := oneofs_had ts (ts.length + 2) (os.length + 1) fs (sign ts 123 (of ts 1 s).2)
  have h3 := oneofs_go ts (ts.length + 2) (os.length + 1) fs (sign ts 123 (of ts 1 s).2)
  unfold oneof; dsimp only
  rw [cntM, cntM]
  generalize oneofs ts (ts.length + 2) (os.length + 1) fs (sign ts 123 (of ts 1 s).2) = r at *
  intro e
  have h4 := early_go ts (decide (r.1.length ≠ fs.length)) r.2 e
  have h5 := h2 h4.1
  have h6 := h1 (h3 h4.1).1
  omega
theorem reserved_cnt (m : Msg) (s : St) : cntM (reserved ts m s).1 = cntM m := by
  obtain ⟨nm, fs, os, ms, es, rs, ns, li, co⟩ := m
  unfold reserved; dsimp only; split <;> rw [cntM, cntM]
theorem addF_cnt (f : Fld) (m : Msg) : cntM (m.addF f) = cntM m + 1 := by
  obtain ⟨nm, fs, os, ms, es, rs, ns, li, co⟩ := m
  unfold Msg.addF; rw [cntM, cntM]; simp; omega
theorem addE_cnt (f : Enm) (m : Msg) : cntM (m.addE f) = cntM m := by
  obtain ⟨nm, fs, os, ms, es, rs, ns, li, co⟩ := m
  unfold Msg.addE; rw [cntM, cntM]
theorem addM_cnt (m k : Msg) : cntM (m.addM k) = cntM m + cntM k := by
  obtain ⟨nm, fs, os, ms, es, rs, ns, li, co⟩ := m
  unfold Msg.addM; rw [cntM, cntM, cntMs_append]; simp [cntMs]; omega
/-- what goes over a message's parts -/
structure Good (B : Nat → Msg → St → Msg × St) : Prop where
  goes : ∀ d m s, GoesN 0 s (B d m s).2
  had : ∀ d m s, Had (cntM m) (cntM (B d m s).1) s (B d m s).2
  here : ∀ d m s, In ts s (B d m s).2
theorem messageBy_had {B : Nat → Msg → St → Msg × St} (hB : Good ts B) (deep : Nat) (s : St) : Had 0 (cntM (messageBy ts B deep s).1) s (messageBy ts B deep s).2 := by
  have h1 : GoesN 0 s (sign ts 123 (deepAt deep (of ts 1 s).1 (of ts 1 s).2)) := ((of_go ts 1 s).trans (deepAt_go _ _ _)).then (sign_go ts 123 _) (by omega)
  have h2 := hB.had deep (.mk (of ts 1 s).1.text [] [] [] [] [] [] (of ts 1 s).1.line (of ts 1 s).1.col) (sign ts 123 (deepAt deep (of ts 1 s).1 (of ts 1 s).2))
  have h3 := hB.goes deep (.mk (of ts 1 s).1.text [] [] [] [] [] [] (of ts 1 s).1.line (of ts 1 s).1.col) (sign ts 123 (deepAt deep (of ts 1 s).1 (of ts 1 s).2))
  have h0 : cntM (.mk (of ts 1 s).1.text [] [] [] [] [] [] (of ts 1 s).1.line (of ts 1 s).1.col) = 0 := by rw [cntM]; rfl
  rw [h0] at h2
  exact (Had.same h1).trans h2 h3
theorem messageBy_in {B : Nat → Msg → St → Msg × St} (hB : Good ts B) (deep : Nat) (s : St) : In ts s (messageBy ts B deep s).2 := by
  unfold messageBy
  exact fun q => hB.here _ _ _ (sign_in ts _ _ (deepAt_in ts _ _ _ (of_in ts (by decide) s q)))
theorem part_good {B : Nat → Msg → St → Msg × St} (hB : Good ts B) (deep : Nat) (m : Msg) (s : St) : Had (cntM m) (cntM (part ts B deep m s).1) s (part ts B deep m s).2 ∧ In ts s (part ts B deep m s).2 := by
  have n0 : Had (cntM m) (cntM m) s s.next := Had.same ((GoesN.next s).mono (by omega))
  have m1 := messageBy_had ts hB (deep + 1) s.next; have m2 := messageBy_go ts hB.goes (deep + 1) s.next; have m3 := messageBy_in ts hB (deep + 1) s.next
  have e2 := enum_go ts s.next; have e3 := enum_in ts s.next
  have o1 := oneof_had ts m s.next; have o2 := oneof_go ts m s.next; have o3 := oneof_in ts m s.next
  have r1 := reserved_cnt ts m s.next; have r2 := reserved_go ts m s.next; have r3 := reserved_in ts m s.next
  have f1 := field_go ts 3 0 s.next; have f2 := field_in ts 3 0 s.next
  have g1 := field_go ts 2 0 s.next; have g2 := field_in ts 2 0 s.next
  have p1 := mapped_go ts s.next; have p2 := mapped_in ts s.next
  have q1 := field_go ts 1 0 s; have q2 := field_in ts 1 0 s
  have nx : ∀ t, sees ts 1 t s = true → In ts s s.next := fun t h => next_in ts (by decide) h
  unfold part
  generalize messageBy ts B (deep + 1) s.next = x1 at *
  generalize enum ts s.next = x2 at *
  generalize oneof ts m s.next = x3 at *
  generalize reserved ts m s.next = x4 at *
  generalize field ts 3 0 s.next = x5 at *
  generalize field ts 2 0 s.next = x6 at *
  generalize mapped ts s.next = x7 at *
  generalize field ts 1 0 s = x8 at *
  have addf : ∀ (y : Fld × St), GoesN 1 s.next y.2 → Had (cntM m) (cntM (m.addF y.1)) s y.2 := fun y hy => by
    rw [addF_cnt]
    exact n0.trans (Had.one hy) (hy.mono (by omega))
  split
  · rename_i h
    refine ⟨?_, fun q => m3 (nx _ h q)⟩
    show Had (cntM m) (cntM (m.addM x1.1)) s x1.2
    rw [addM_cnt]
    intro e
    have h1 := m1 e; have h2 := m2 e; have h3 := n0 h2.1
    omega
  · split
    · rename_i h
      refine ⟨?_, fun q => e3 (nx _ h q)⟩
      show Had (cntM m) (cntM (m.addE x2.1)) s x2.2
      rw [addE_cnt]
      exact n0.trans (Had.same (e2.mono (by omega))) (e2.mono (by omega))
    · split
      · rename_i h; exact ⟨n0.trans o1 (o2.mono (by omega)), fun q => o3 (nx _ h q)⟩
      · split
        · rename_i h
          refine ⟨?_, fun q => r3 (nx _ h q)⟩
          rw [r1]; exact n0.trans (Had.same (r2.mono (by omega))) (r2.mono (by omega))
        · split
          · rename_i h; exact ⟨addf x5 f1, fun q => f2 (nx _ h q)⟩
          · split
            · rename_i h; exact ⟨addf x6 g1, fun q => g2 (nx _ h q)⟩
            · split
              · rename_i h; exact ⟨addf x7 p1, fun q => p2 (nx _ h.1 q)⟩
              · refine ⟨?_, q2⟩
                show Had (cntM m) (cntM (m.addF x8.1)) s x8.2
                rw [addF_cnt]; exact Had.one q1
theorem parts_good (n : Nat) : Good ts (parts ts n) := by
  induction n with
  | zero => exact ⟨fun d m s => GoesN.refl s, fun d m s => Had.same (GoesN.refl s), fun d m s h => h⟩
  | succ n ih =>
    refine ⟨parts_go ts (n + 1), fun d m s => ?_, fun d m s => ?_⟩
    · have h1 := Had.same (a := cntM m) (more_go ts s)
      have h2 := (part_good ts ih d m (more ts s).2).1
      have h2g := part_go ts ih.goes d m (more ts s).2
      have h3 := ih.had d (part ts (parts ts n) d m (more ts s).2).1 (part ts (parts ts n) d m (more ts s).2).2
      have h3g := ih.goes d (part ts (parts ts n) d m (more ts s).2).1 (part ts (parts ts n) d m (more ts s).2).2
      unfold parts
      generalize part ts (parts ts n) d m (more ts s).2 = r at *
      generalize more ts s = q at *
      obtain ⟨b, s1⟩ := q
      cases b
      · exact h1
      · exact (h1.trans h2 (h2g.mono (by omega))).trans h3 h3g
    · have h1 := more_in ts s
      have h2 := (part_good ts ih d m (more ts s).2).2
      have h3 := ih.here d (part ts (parts ts n) d m (more ts s).2).1 (part ts (parts ts n) d m (more ts s).2).2
      unfold parts
      generalize part ts (parts ts n) d m (more ts s).2 = r at *
      generalize more ts s = q at *
      obtain ⟨b, s1⟩ := q
      cases b
      · exact h1
      · exact fun q => h3 (h2 (h1 q))
theorem files_good : ∀ (n : Nat) (f : Fil) (s : St), Had (cntMs f.msgs) (cntMs (files ts n f s).1.msgs) s (files ts n f s).2 ∧ In ts s (files ts n f s).2 ∧ GoesN 0 s (files ts n f s).2 := by
  intro n
  induction n with
  | zero => exact fun f s => ⟨Had.same (GoesN.refl s), fun h => h, GoesN.refl s⟩
  | succ n ih =>
    intro f s
    have i1 := ih f s.next
    have m1 := messageBy_had ts (parts_good ts (ts.length + 2)) 0 s.next; have m2 := messageBy_go ts (parts_go ts (ts.length + 2)) 0 s.next; have m3 := messageBy_in ts (parts_good ts (ts.length + 2)) 0 s.next
    have i2 := ih { f with msgs := f.msgs ++ [(message ts 0 s.next).1] } (message ts 0 s.next).2
    have e2 := enum_go ts s.next; have e3 := enum_in ts s.next
    have i3 := ih { f with enums := f.enums ++ [(enum ts s.next).1] } (enum ts s.next).2
    have i4 := ih f (fail ts s)
    have f1 := fail_goes ts 0 s; have f2 := fail_in ts s
    have nx : ∀ k t, k ≠ 0 → sees ts k t s = true → In ts s s.next := fun k t hk h => next_in ts hk h
    unfold files
    change Had 0 (cntM (message ts 0 s.next).1) s.next (message ts 0 s.next).2 at m1
    change GoesN 1 s.next (message ts 0 s.next).2 at m2
    change In ts s.next (message ts 0 s.next).2 at m3
    generalize message ts 0 s.next = x1 at *
    generalize enum ts s.next = x2 at *
    split
    · exact ⟨Had.same (GoesN.refl s), fun h => h, GoesN.refl s⟩
    · split
      · rename_i h
        exact ⟨(Had.same ((GoesN.next s).mono (by omega))).trans i1.1 i1.2.2, fun q => i1.2.1 (nx _ _ (by decide) h q), (GoesN.next s).then i1.2.2 (by omega)⟩
      · split
        · rename_i h
          refine ⟨fun e => ?_, fun q => i2.2.1 (m3 (nx _ _ (by decide) h q)), ((GoesN.next s).trans m2).then i2.2.2 (by omega)⟩
          have h1 := i2.1 e
          have h2 := i2.2.2 e
          have h3 := m1 h2.1
          have h4 : s.next.pos = s.pos + 1 := rfl
          dsimp only at h1
          rw [cntMs_append] at h1
          simp only [cntMs] at h1
          omega
        · split
          · rename_i h
            exact ⟨((Had.same ((GoesN.next s).mono (by omega))).trans (Had.same (e2.mono (by omega))) (e2.mono (by omega))).trans i3.1 i3.2.2, fun q => i3.2.1 (e3 (nx _ _ (by decide) h q)), ((GoesN.next s).trans e2).then i3.2.2 (by omega)⟩
          · exact ⟨(Had.same f1).trans i4.1 i4.2.2, fun q => i4.2.1 (f2 q), f1.then i4.2.2 (by omega)⟩
theorem head_in (s : St) : In ts s (head ts s).2 := by
  have hv : ∀ s, In ts s (headV ts s) := fun s => by
    unfold headV; split
    · exact fun h => h
    · exact fail_in ts s
  unfold head; dsimp only; split
  · rename_i h; exact fun q => sign_in ts _ _ (dotted_in ts _ (next_in ts (by decide) h (sign_in ts _ _ (of_in ts (by decide) _ (hv _ (sign_in ts _ _ (must_in ts (by decide) _ s q)))))))
  · exact fun q => sign_in ts _ _ (of_in ts (by decide) _ (hv _ (sign_in ts _ _ (must_in ts (by decide) _ s q))))
/-- a file has no more fields than tokens -/
theorem parse_cnt : cntMs (parse ts).1.msgs ≤ ts.length := by
  unfold parse
  dsimp only
  split
  · exact Nat.zero_le _
  · rename_i h
    have hg := files_good ts (ts.length + 2) ⟨(head ts ⟨0, none⟩).1, [], []⟩ (head ts ⟨0, none⟩).2
    have he : (files ts (ts.length + 2) ⟨(head ts ⟨0, none⟩).1, [], []⟩ (head ts ⟨0, none⟩).2).2.err = none := by simpa using h
    have h1 := hg.1 he
    have h2 := hg.2.1 (head_in ts ⟨0, none⟩ (Nat.zero_le _))
    simp only [cntMs] at h1
    show cntMs (files ts (ts.length + 2) ⟨(head ts ⟨0, none⟩).1, [], []⟩ (head ts ⟨0, none⟩).2).1.msgs ≤ _
    omega
theorem cnt_mem {m : Msg} {l : List Msg} (h : m ∈ l) : cntM m ≤ cntMs l := by
  induction l with
  | nil => cases h
  | cons a r ih =>
    rw [cntMs]
    rcases List.mem_cons.1 h with rfl | h
    · omega
    · have := ih h; omega

end Go.Proofs.YtiofhfcohhfihaaGreatDoor.Sx
