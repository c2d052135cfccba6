/- Plain facts: how deep the messages of a file lie, and how long its names are. -/
import Derived.Test.YtiofhfcohhfihaaGreatDoorSxTotal
import Derived.Test.YtiofhfcohhfihaaGreatDoorGroupD
namespace Go.Proofs.YtiofhfcohhfihaaGreatDoor.Sx
open Lx (Bs Tok)
set_option linter.unusedVariables false
set_option linter.unusedSimpArgs false

/-- a message with fewer than n levels; names are short -/
def DeepM : Nat → Msg → Prop
  | 0, _ => False
  | n + 1, .mk nm fs os ms es rs ns li co => nm.length ≤ 5000 ∧ (∀ e ∈ es, e.name.length ≤ 5000) ∧ ∀ k ∈ ms, DeepM n k
structure DeepF (f : Fil) : Prop where
  pack : f.pack.length ≤ 25100000
  enums : ∀ e ∈ f.enums, e.name.length ≤ 5000
  msgs : ∀ m ∈ f.msgs, DeepM 8 m
variable {ts : List Tok}
theorem deep_addF {n : Nat} {m : Msg} (f : Fld) (h : DeepM n m) : DeepM n (m.addF f) := by
  obtain ⟨nm, fs, os, ms, es, rs, ns, li, co⟩ := m
  cases n with
  | zero => exact h
  | succ n => exact h
theorem deep_addE {n : Nat} {m : Msg} {e : Enm} (he : e.name.length ≤ 5000) (h : DeepM n m) : DeepM n (m.addE e) := by
  obtain ⟨nm, fs, os, ms, es, rs, ns, li, co⟩ := m
  cases n with
  | zero => exact h
  | succ n =>
    refine ⟨h.1, fun x hx => ?_, h.2.2⟩
    rcases List.mem_append.1 hx with hx | hx
    · exact h.2.1 x hx
    · rw [List.mem_singleton.1 hx]; exact he
theorem deep_addM {n : Nat} {m k : Msg} (hk : DeepM n k) (h : DeepM (n + 1) m) : DeepM (n + 1) (m.addM k) := by
  obtain ⟨nm, fs, os, ms, es, rs, ns, li, co⟩ := m
  refine ⟨h.1, h.2.1, fun x hx => ?_⟩
  rcases List.mem_append.1 hx with hx | hx
  · exact h.2.2 x hx
  · rw [List.mem_singleton.1 hx]; exact hk
theorem deep_oneof {n : Nat} {m : Msg} {s : St} (h : DeepM n m) : DeepM n (oneof ts m s).1 := by
  obtain ⟨nm, fs, os, ms, es, rs, ns, li, co⟩ := m
  cases n with
  | zero => exact h
  | succ n => exact h
theorem deep_reserved {n : Nat} {m : Msg} {s : St} (h : DeepM n m) : DeepM n (reserved ts m s).1 := by
  obtain ⟨nm, fs, os, ms, es, rs, ns, li, co⟩ := m
  unfold reserved
  dsimp only
  cases n with
  | zero => exact absurd h (fun h => h)
  | succ n =>
    by_cases c : (peek ts s).kind = 3
    · rw [if_pos c]; exact h
    · rw [if_neg c]; exact h
theorem enum_name (hS : Small ts) (s : St) : (enum ts s).1.name.length ≤ 5000 := of_text hS 1 s
theorem messageBy_deep (hS : Small ts) {B : Nat → Msg → St → Msg × St} (hG : ∀ d m s, GoesN 0 s (B d m s).2) (hB : ∀ d m s, d < 8 → (B d m s).2.err = none → DeepM (8 - d) m → DeepM (8 - d) (B d m s).1) (d : Nat) (s : St)
    (h : (messageBy ts B d s).2.err = none) : d < 8 ∧ DeepM (8 - d) (messageBy ts B d s).1 := by
  unfold messageBy at h ⊢
  have h1 := (hG _ _ _ h).1
  have h2 := (sign_go ts 123 _ h1).1
  have hd : d < 8 := by
    unfold deepAt at h2
    split at h2
    · rename_i c; rw [h2] at c; cases c
    · split at h2
      · cases h2
      · omega
  refine ⟨hd, hB d _ _ hd h ?_⟩
  obtain ⟨k, hk⟩ : ∃ k, 8 - d = k + 1 := ⟨7 - d, by omega⟩
  rw [hk]
  exact ⟨of_text hS 1 s, fun e he => by simp at he, fun k hk => by simp at hk⟩
theorem part_deep (hS : Small ts) {B : Nat → Msg → St → Msg × St} (hG : ∀ d m s, GoesN 0 s (B d m s).2) (hB : ∀ d m s, d < 8 → (B d m s).2.err = none → DeepM (8 - d) m → DeepM (8 - d) (B d m s).1) (d : Nat) (m : Msg) (s : St) (hd : d < 8)
    (h : (part ts B d m s).2.err = none) (hm : DeepM (8 - d) m) : DeepM (8 - d) (part ts B d m s).1 := by
  unfold part at h ⊢
  split
  · rename_i c
    rw [if_pos c] at h
    have h1 := messageBy_deep hS hG hB (d + 1) s.next h
    obtain ⟨k, hk⟩ : ∃ k, 8 - d = k + 1 := ⟨7 - d, by omega⟩
    have h2 := h1.2
    rw [show 8 - (d + 1) = k by omega] at h2
    rw [hk] at hm ⊢
    exact deep_addM h2 hm
  split
  · exact deep_addE (enum_name hS _) hm
  split
  · exact deep_oneof hm
  split
  · exact deep_reserved hm
  split
  · exact deep_addF _ hm
  split
  · exact deep_addF _ hm
  split
  · exact deep_addF _ hm
  · exact deep_addF _ hm
theorem parts_deep (hS : Small ts) : ∀ (n d : Nat) (m : Msg) (s : St), d < 8 → (parts ts n d m s).2.err = none → DeepM (8 - d) m → DeepM (8 - d) (parts ts n d m s).1
  | 0, d, m, s, _, _, hm => hm
  | n + 1, d, m, s, hd, h, hm => by
    rw [parts] at h ⊢
    split
    · rename_i c
      rw [if_pos c] at h
      have h1 := (parts_go ts n d _ _ h).1
      exact parts_deep hS n d _ _ hd h (part_deep hS (parts_go ts n) (fun d m s a b c => parts_deep hS n d m s a b c) d m _ hd h1 hm)
    · exact hm
theorem message_deep (hS : Small ts) (s : St) (h : (message ts 0 s).2.err = none) : DeepM 8 (message ts 0 s).1 :=
  (messageBy_deep hS (parts_go ts _) (fun d m s a b c => parts_deep hS _ d m s a b c) 0 s h).2
theorem files_deep (hS : Small ts) : ∀ (n : Nat) (f : Fil) (s : St), (files ts n f s).2.err = none → DeepF f → DeepF (files ts n f s).1
  | 0, f, s, _, hf => hf
  | n + 1, f, s, h, hf => by
    have key : ∀ (f : Fil) (s : St), (files ts n f s).2.err = none → s.err = none := fun f s h => by
      cases he : s.err with
      | none => rfl
      | some x =>
        exfalso
        have : files ts n f s = (f, s) := by
          cases n with
          | zero => rfl
          | succ n => rw [files, if_pos (.inl (by rw [he]; rfl))]
        rw [this, he] at h
        cases h
    rw [files] at h ⊢
    split
    · exact hf
    rename_i c0
    rw [if_neg c0] at h
    split
    · rename_i c; rw [if_pos c] at h; exact files_deep hS n f _ h hf
    rename_i c1
    rw [if_neg c1] at h
    split
    · rename_i c
      rw [if_pos c] at h
      refine files_deep hS n _ _ h ⟨hf.pack, hf.enums, fun m hm => ?_⟩
      rcases List.mem_append.1 hm with hm | hm
      · exact hf.msgs m hm
      · rw [List.mem_singleton.1 hm]; exact message_deep hS _ (key _ _ h)
    rename_i c2
    rw [if_neg c2] at h
    split
    · rename_i c
      rw [if_pos c] at h
      refine files_deep hS n _ _ h ⟨hf.pack, fun e he => ?_, hf.msgs⟩
      rcases List.mem_append.1 he with he | he
      · exact hf.enums e he
      · rw [List.mem_singleton.1 he]; exact enum_name hS _
    rename_i c3
    rw [if_neg c3] at h
    exact files_deep hS n f _ h hf
theorem head_len (hS : Small ts) (s : St) : (head ts s).1.length ≤ 25100000 := by
  have e : head ts s = if sees ts 1 bPackage (sign ts 59 (of ts 3 (headV ts (sign ts 61 (must ts 1 bSyntax s)))).2) then ((dotted ts (sign ts 59 (of ts 3 (headV ts (sign ts 61 (must ts 1 bSyntax s)))).2).next).1, sign ts 59 (dotted ts (sign ts 59 (of ts 3 (headV ts (sign ts 61 (must ts 1 bSyntax s)))).2).next).2) else ([], sign ts 59 (of ts 3 (headV ts (sign ts 61 (must ts 1 bSyntax s)))).2) := by unfold head; rfl
  rw [e]
  generalize sign ts 59 (of ts 3 (headV ts (sign ts 61 (must ts 1 bSyntax s)))).2 = A
  by_cases c : sees ts 1 bPackage A = true
  · rw [if_pos c]
    have h := dotted_len hS A.next
    generalize dotted ts A.next = D at *
    exact h
  · rw [if_neg c]; exact Nat.zero_le _
theorem parse_deep (hS : Small ts) : DeepF (parse ts).1 := by
  unfold parse
  dsimp only
  split
  · exact ⟨Nat.zero_le _, fun e he => by simp at he, fun m hm => by simp at hm⟩
  · rename_i c
    exact files_deep hS _ _ _ (by simpa using c) ⟨head_len hS _, fun e he => by simp at he, fun m hm => by simp at hm⟩

end Go.Proofs.YtiofhfcohhfihaaGreatDoor.Sx
