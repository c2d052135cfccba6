/- Plain facts: no name of a file holds a point; so a type's scope is its name without the last part. '==' and '!=' on types; the file of a text, as package scopes takes it. Package scopes, walked: all types, the names of messages and of enums. -/
import Derived.Test.YtiofhfcohhfihaaGreatDoorSxTotal
import Derived.Test.YtiofhfcohhfihaaGreatDoorLxBack
import Derived.Test.YtiofhfcohhfihaaGreatDoorScPlain
import Derived.Test.YtiofhfcohhfihaaGreatDoorGroupF
import Derived.Test.YtiofhfcohhfihaaGreatDoorGroupE
import Derived.Laws.StructEq
import Derived.Test.YtiofhfcohhfihaaGreatDoorScRef

namespace Go.Proofs.YtiofhfcohhfihaaGreatDoor.Sx
open Lx (Bs Tok)
set_option linter.unusedVariables false
set_option linter.unusedSimpArgs false

/-- words hold no points -/
def Dot (ts : List Tok) : Prop := ∀ t ∈ ts, t.kind = 1 → ¬ (46 : UInt8) ∈ t.text
theorem dot_split {l : Bs} {p : Nat × Nat} {ts : List Tok} (h : Lx.splitN l p = .ok ts) : Dot ts := fun t ht hk hm => by
  have hg := Lx.splitN_good l.length l p ts (Nat.le_refl _) h t ht
  unfold Lx.good at hg
  rcases hg with ⟨_, _, h1, _⟩ | ⟨h1, _⟩ | ⟨h1, _⟩ | ⟨h1, _⟩
  · have := h1 46 hm
    revert this; decide
  · omega
  · omega
  · omega
theorem peek_dot {ts : List Tok} (h : Dot ts) (s : St) (hk : (peek ts s).kind = 1) : ¬ (46 : UInt8) ∈ (peek ts s).text := by
  unfold peek at hk ⊢
  split
  · simp [zTok]
  · rename_i c
    rw [if_neg c] at hk
    cases hg : ts[s.pos]? with
    | none => simp [zTok]
    | some x =>
      rw [hg] at hk
      exact h x (List.mem_of_getElem? hg) hk
theorem of_dot {ts : List Tok} (h : Dot ts) (s : St) : ¬ (46 : UInt8) ∈ (of ts 1 s).1.text := by
  unfold of
  split
  · rename_i hk; exact peek_dot h s hk
  · simp [zTok]
/-- a message with fewer than n levels; no name holds a point -/
def DotM : Nat → Msg → Prop
  | 0, _ => False
  | n + 1, .mk nm fs os ms es rs ns li co => ¬ (46 : UInt8) ∈ nm ∧ (∀ e ∈ es, ¬ (46 : UInt8) ∈ e.name) ∧ ∀ k ∈ ms, DotM n k
structure DotF (f : Fil) : Prop where
  enums : ∀ e ∈ f.enums, ¬ (46 : UInt8) ∈ e.name
  msgs : ∀ m ∈ f.msgs, DotM 8 m
variable {ts : List Tok}
theorem dotm_addF {n : Nat} {m : Msg} (f : Fld) (h : DotM n m) : DotM n (m.addF f) := by
  obtain ⟨nm, fs, os, ms, es, rs, ns, li, co⟩ := m
  cases n with
  | zero => exact h
  | succ n => exact h
theorem dotm_addE {n : Nat} {m : Msg} {e : Enm} (he : ¬ (46 : UInt8) ∈ e.name) (h : DotM n m) : DotM n (m.addE e) := by
  obtain ⟨nm, fs, os, ms, es, rs, ns, li, co⟩ := m
  cases n with
  | zero => exact h
  | succ n =>
    refine ⟨h.1, fun x hx => ?_, h.2.2⟩
    rcases List.mem_append.1 hx with hx | hx
    · exact h.2.1 x hx
    · rw [List.mem_singleton.1 hx]; exact he
theorem dotm_addM {n : Nat} {m k : Msg} (hk : DotM n k) (h : DotM (n + 1) m) : DotM (n + 1) (m.addM k) := by
  obtain ⟨nm, fs, os, ms, es, rs, ns, li, co⟩ := m
  refine ⟨h.1, h.2.1, fun x hx => ?_⟩
  rcases List.mem_append.1 hx with hx | hx
  · exact h.2.2 x hx
  · rw [List.mem_singleton.1 hx]; exact hk
theorem dotm_oneof {n : Nat} {m : Msg} {s : St} (h : DotM n m) : DotM n (oneof ts m s).1 := by
  obtain ⟨nm, fs, os, ms, es, rs, ns, li, co⟩ := m
  cases n with
  | zero => exact h
  | succ n => exact h
theorem dotm_reserved {n : Nat} {m : Msg} {s : St} (h : DotM n m) : DotM n (reserved ts m s).1 := by
  obtain ⟨nm, fs, os, ms, es, rs, ns, li, co⟩ := m
  unfold reserved
  dsimp only
  cases n with
  | zero => exact absurd h (fun h => h)
  | succ n =>
    by_cases c : (peek ts s).kind = 3
    · rw [if_pos c]; exact h
    · rw [if_neg c]; exact h
theorem enum_nodot (hS : Dot ts) (s : St) : ¬ (46 : UInt8) ∈ (enum ts s).1.name := of_dot hS s
theorem messageBy_dotm (hS : Dot ts) {B : Nat → Msg → St → Msg × St} (hG : ∀ d m s, GoesN 0 s (B d m s).2) (hB : ∀ d m s, d < 8 → (B d m s).2.err = none → DotM (8 - d) m → DotM (8 - d) (B d m s).1) (d : Nat) (s : St)
    (h : (messageBy ts B d s).2.err = none) : d < 8 ∧ DotM (8 - d) (messageBy ts B d s).1 := by
  unfold messageBy at h ⊢
  have h1 := (hG _ _ _ h).1
  have h2 := (sign_go ts 123 _ h1).1
  have hd : d < 8 := by
    unfold deepAt at h2
    split at h2
    · rename_i c; rw [h2] at c; cases c
    · split at h2
      · cases h2
      · omega
  refine ⟨hd, hB d _ _ hd h ?_⟩
  obtain ⟨k, hk⟩ : ∃ k, 8 - d = k + 1 := ⟨7 - d, by omega⟩
  rw [hk]
  exact ⟨of_dot hS s, fun e he => by simp at he, fun k hk => by simp at hk⟩
theorem part_dotm (hS : Dot ts) {B : Nat → Msg → St → Msg × St} (hG : ∀ d m s, GoesN 0 s (B d m s).2) (hB : ∀ d m s, d < 8 → (B d m s).2.err = none → DotM (8 - d) m → DotM (8 - d) (B d m s).1) (d : Nat) (m : Msg) (s : St) (hd : d < 8)
    (h : (part ts B d m s).2.err = none) (hm : DotM (8 - d) m) : DotM (8 - d) (part ts B d m s).1 := by
  unfold part at h ⊢
  split
  · rename_i c
    rw [if_pos c] at h
    have h1 := messageBy_dotm hS hG hB (d + 1) s.next h
    obtain ⟨k, hk⟩ : ∃ k, 8 - d = k + 1 := ⟨7 - d, by omega⟩
    have h2 := h1.2
    rw [show 8 - (d + 1) = k by omega] at h2
    rw [hk] at hm ⊢
    exact dotm_addM h2 hm
  split
  · exact dotm_addE (enum_nodot hS _) hm
  split
  · exact dotm_oneof hm
  split
  · exact dotm_reserved hm
  split
  · exact dotm_addF _ hm
  split
  · exact dotm_addF _ hm
  split
  · exact dotm_addF _ hm
  · exact dotm_addF _ hm
theorem parts_dotm (hS : Dot ts) : ∀ (n d : Nat) (m : Msg) (s : St), d < 8 → (parts ts n d m s).2.err = none → DotM (8 - d) m → DotM (8 - d) (parts ts n d m s).1
  | 0, d, m, s, _, _, hm => hm
  | n + 1, d, m, s, hd, h, hm => by
    rw [parts] at h ⊢
    split
    · rename_i c
      rw [if_pos c] at h
      have h1 := (parts_go ts n d _ _ h).1
      exact parts_dotm hS n d _ _ hd h (part_dotm hS (parts_go ts n) (fun d m s a b c => parts_dotm hS n d m s a b c) d m _ hd h1 hm)
    · exact hm
theorem message_dotm (hS : Dot ts) (s : St) (h : (message ts 0 s).2.err = none) : DotM 8 (message ts 0 s).1 :=
  (messageBy_dotm hS (parts_go ts _) (fun d m s a b c => parts_dotm hS _ d m s a b c) 0 s h).2
theorem files_dotm (hS : Dot ts) : ∀ (n : Nat) (f : Fil) (s : St), (files ts n f s).2.err = none → DotF f → DotF (files ts n f s).1
  | 0, f, s, _, hf => hf
  | n + 1, f, s, h, hf => by
    have key : ∀ (f : Fil) (s : St), (files ts n f s).2.err = none → s.err = none := fun f s h => by
      cases he : s.err with
      | none => rfl
      | some x =>
        exfalso
        have : files ts n f s = (f, s) := by
          cases n with
          | zero => rfl
          | succ n => rw [files, if_pos (.inl (by rw [he]; rfl))]
        rw [this, he] at h
        cases h
    rw [files] at h ⊢
    split
    · exact hf
    rename_i c0
    rw [if_neg c0] at h
    split
    · rename_i c; rw [if_pos c] at h; exact files_dotm hS n f _ h hf
    rename_i c1
    rw [if_neg c1] at h
    split
    · rename_i c
      rw [if_pos c] at h
      refine files_dotm hS n _ _ h ⟨hf.enums, fun m hm => ?_⟩
      rcases List.mem_append.1 hm with hm | hm
      · exact hf.msgs m hm
      · rw [List.mem_singleton.1 hm]; exact message_dotm hS _ (key _ _ h)
    rename_i c2
    rw [if_neg c2] at h
    split
    · rename_i c
      rw [if_pos c] at h
      refine files_dotm hS n _ _ h ⟨fun e he => ?_, hf.msgs⟩
      rcases List.mem_append.1 he with he | he
      · exact hf.enums e he
      · rw [List.mem_singleton.1 he]; exact enum_nodot hS _
    rename_i c3
    rw [if_neg c3] at h
    exact files_dotm hS n f _ h hf
theorem parse_dotm (hS : Dot ts) : DotF (parse ts).1 := by
  unfold parse
  dsimp only
  split
  · exact ⟨fun e he => by simp at he, fun m hm => by simp at hm⟩
  · rename_i c
    exact files_dotm hS _ _ _ (by simpa using c) ⟨fun e he => by simp at he, fun m hm => by simp at hm⟩

end Go.Proofs.YtiofhfcohhfihaaGreatDoor.Sx
namespace Go.Proofs.YtiofhfcohhfihaaGreatDoor.Sc
open Lx (Bs Tok)
open Sx
/-- a type's name: a name without points within a scope -/
def Nice (x : Bs) : Prop := ∃ s n : Bs, x = within s n ∧ ¬ (46 : UInt8) ∈ n
theorem rawEs_nice (s : Bs) (l : List Enm) (h : ∀ e ∈ l, ¬ (46 : UInt8) ∈ e.name) : ∀ x ∈ rawEs s l, Nice x.full := by
  intro x hx
  obtain ⟨e, he, rfl⟩ := List.mem_map.1 hx
  exact ⟨s, e.name, rfl, h e he⟩
theorem rawMs_nice : ∀ (n : Nat) (s : Bs) (l : List Msg), (∀ m ∈ l, DotM n m) → ∀ x ∈ rawMs s l, Nice x.full := by
  intro n
  induction n with
  | zero =>
    intro s l h x hx
    cases l with
    | nil => rw [rawMs] at hx; cases hx
    | cons m r => exact absurd (h m (List.mem_cons_self ..)) (fun h => h)
  | succ n ih =>
    intro s l
    induction l with
    | nil => intro h x hx; rw [rawMs] at hx; cases hx
    | cons m r ihl =>
      intro h x hx
      rw [rawMs] at hx
      rcases List.mem_append.1 hx with hx | hx
      · have hm := h m (List.mem_cons_self ..)
        obtain ⟨nm, fs, os, ms, es, rs, ns, li, co⟩ := m
        rw [rawM] at hx
        rcases List.mem_cons.1 hx with rfl | hx
        · exact ⟨s, nm, rfl, hm.1⟩
        · rcases List.mem_append.1 hx with hx | hx
          · exact rawEs_nice _ _ hm.2.1 x hx
          · exact ih _ _ hm.2.2 x hx
      · exact ihl (fun k hk => h k (List.mem_cons_of_mem _ hk)) x hx
theorem raws_nice {f : Fil} (h : DotF f) : ∀ x ∈ raws f, Nice x.full := by
  intro x hx
  unfold raws at hx
  rcases List.mem_append.1 hx with hx | hx
  · exact rawEs_nice _ _ h.enums x hx
  · exact rawMs_nice 8 _ _ h.msgs x hx
theorem add_mem (l : List Ty) (r : List Raw) : ∀ t ∈ (addAll l r).1, t ∈ l ∨ ∃ x ∈ r, t.full = x.full := by
  induction r generalizing l with
  | nil => exact fun t h => .inl h
  | cons y r ih =>
    intro t ht
    have h1 : ∀ t ∈ (add1 l y).1, t ∈ l ∨ t.full = y.full := fun t ht => by
      unfold add1 at ht
      split at ht
      · exact .inl ht
      · split at ht
        · exact .inl ht
        · rcases List.mem_append.1 ht with h | h
          · exact .inl h
          · rw [List.mem_singleton.1 h]; exact .inr rfl
    rw [addAll] at ht
    split at ht
    · rcases h1 t ht with h | h
      · exact .inl h
      · exact .inr ⟨y, List.mem_cons_self .., h⟩
    · rcases ih _ t ht with h | ⟨x, hx, h⟩
      · rcases h1 t h with h | h
        · exact .inl h
        · exact .inr ⟨y, List.mem_cons_self .., h⟩
      · exact .inr ⟨x, List.mem_cons_of_mem _ hx, h⟩
theorem table_nice {f : Fil} (h : DotF f) : ∀ t ∈ (table f).1, Nice t.full := fun t ht => by
  rcases add_mem [] (raws f) t ht with h' | ⟨x, hx, e⟩
  · cases h'
  · rw [e]; exact raws_nice h x hx
theorem lastP_none {s : Bs} : ∀ {k : Nat}, (∀ j, j < k → s[j]? ≠ some 46) → lastP s k = 0
  | 0, _ => rfl
  | k + 1, h => by rw [lastP, if_neg (h k (by omega))]; exact lastP_none (fun j hj => h j (by omega))
theorem lastP_at {s : Bs} {i : Nat} : ∀ {k : Nat}, i < k → s[i]? = some 46 → (∀ j, i < j → j < k → s[j]? ≠ some 46) → lastP s k = i
  | 0, h, _, _ => by omega
  | k + 1, h, hi, hn => by
    rw [lastP]
    by_cases e : i = k
    · subst e; rw [if_pos hi]
    · rw [if_neg (hn k (by omega) (by omega))]
      exact lastP_at (by omega) hi (fun j h1 h2 => hn j h1 (by omega))
theorem nodot_at {n : Bs} (h : ¬ (46 : UInt8) ∈ n) (j : Nat) : n[j]? ≠ some 46 := fun e => h (List.mem_of_getElem? e)
/-- what stands around a type's name, and what it is called there -/
theorem nice_outer {s n : Bs} (h : ¬ (46 : UInt8) ∈ n) : outer (within s n) = s ∧ (s ≠ [] → (within s n).drop s.length = 46 :: n) ∧ (s = [] → within s n = n) := by
  by_cases hs : s = []
  · subst hs
    refine ⟨?_, fun h => absurd rfl h, fun _ => rfl⟩
    have e : within [] n = n := rfl
    rw [e]
    unfold outer lastDot
    rw [lastP_none (fun j _ => nodot_at h j)]; rfl
  · have e : within s n = s ++ ([46] ++ n) := by unfold within; rw [if_neg hs, List.append_assoc]
    rw [e]
    refine ⟨?_, fun _ => ?_, fun h => absurd h hs⟩
    · unfold outer lastDot
      have hl : lastP (s ++ ([46] ++ n)) (s ++ ([46] ++ n)).length = s.length := by
        refine lastP_at ?_ ?_ (fun j h1 h2 => ?_)
        · simp
        · rw [List.getElem?_append_right (Nat.le_refl _)]; simp
        · rw [List.getElem?_append_right (by omega)]
          obtain ⟨d, hd⟩ : ∃ d, j - s.length = d + 1 := ⟨j - s.length - 1, by omega⟩
          rw [hd]
          exact nodot_at h d
      rw [hl, List.take_left' rfl]
    · rw [List.drop_left' rfl]; rfl
theorem look_own {l : List Ty} {x : Ty} (hf : find l x.full = some x) {s n : Bs} (he : x.full = within s n) (hn : ¬ (46 : UInt8) ∈ n) : Look l s n = some x := by
  unfold Look
  have h1 : ¬ n.head? = some 46 := fun e => by
    cases n with
    | nil => cases e
    | cons a r => exact hn (by rw [← Option.some.inj e]; exact List.mem_cons_self ..)
  rw [if_neg h1, look, ← he, hf]
theorem look_full {l : List Ty} {x : Ty} (hf : find l x.full = some x) (s : Bs) : Look l s (46 :: x.full) = some x := by
  unfold Look
  rw [if_pos (show (46 :: x.full).head? = some 46 from rfl)]; exact hf
/-- no point stands behind the last one -/
theorem lastP_behind {s : Bs} : ∀ {k j : Nat}, lastP s k < j → j < k → s[j]? ≠ some 46
  | 0, j, _, h => by omega
  | k + 1, j, h1, h2 => by
    rw [lastP] at h1
    split at h1
    · omega
    · rename_i c
      by_cases e : j = k
      · subst e; exact c
      · exact lastP_behind h1 (by omega)

end Go.Proofs.YtiofhfcohhfihaaGreatDoor.Sc

namespace Go.Proofs.YtiofhfcohhfihaaGreatDoor
open Go.RowKit
set_option linter.unusedVariables false
set_option linter.unusedSimpArgs false

theorem nat_beq9 (a b : Nat) : (((a : Nat) : Int) == ((b : Nat) : Int)) = decide (a = b) := by
  rw [Bool.eq_iff_iff, beq_iff_eq, decide_eq_true_iff]; omega
theorem bool_beq9 (a b : Bool) : (a == b) = decide (a = b) := by cases a <;> cases b <;> rfl
theorem ty_eq (x y : Sc.Ty) : decide (x = y) = (decide (x.full = y.full) && decide (x.enum = y.enum) && decide (x.index = y.index) && decide (x.line = y.line) && decide (x.col = y.col)) := by
  rw [Bool.eq_iff_iff]
  simp only [Bool.and_eq_true, decide_eq_true_iff]
  constructor
  · rintro rfl; simp
  · rintro ⟨⟨⟨⟨h1, h2⟩, h3⟩, h4⟩, h5⟩
    cases x; cases y; simp_all
set_option maxHeartbeats 2000000 in
theorem neqSTy (x y : Sc.Ty) (w : World) : (binOp .neq 59 (.agg (tyC x).toArray) (.agg (tyC y).toArray)).run Tryz.prog w = .ok (.bool (!decide (x = y))) w := by
  have u3 := Tryz.underlying3
  have a3 := Tryz.isAgg3
  have z3 := Tryz.sizeOf3
  have u4 := Tryz.underlying4
  have a4 := Tryz.isAgg4
  have z4 := Tryz.sizeOf4
  have u9 := Tryz.underlying9
  have a9 := Tryz.isAgg9
  have z9 := Tryz.sizeOf9
  have hS : Tryz.prog.underlying 59 = some (.struct (Tryz.prog.fieldsOf 59)) := by kernel_rfl
  have hp : Tryz.prog.stoodInHeld 59 = false := by kernel_rfl
  rw [ty_eq]
  have q0 := toB_beq x.full y.full
  generalize decide (x.full = y.full) = b0 at *
  have q1 := bool_beq9 x.enum y.enum
  generalize decide (x.enum = y.enum) = b1 at *
  have q2 := nat_beq9 x.index y.index
  generalize decide (x.index = y.index) = b2 at *
  have q3 := nat_beq9 x.line y.line
  generalize decide (x.line = y.line) = b3 at *
  have q4 := nat_beq9 x.col y.col
  generalize decide (x.col = y.col) = b4 at *
  unfold tyC
  rw [run_neq_struct, show (10000 : Nat) = 9999 + 1 from rfl, run_equalIn_agg w 9999 59 _ _ hS hp]
  simp only [Program.fieldsOf, Tryz.underlying59]
  cases b0
  · go_simp
  cases b1
  · go_simp
  cases b2
  · go_simp
  cases b3
  · go_simp
  cases b4 <;> go_simp
set_option maxHeartbeats 2000000 in
theorem neqRTy (x y : Sc.Ty) (w : World) : (binOp .neq 62 (.agg (tyC x).toArray) (.agg (tyC y).toArray)).run Tryz.prog w = .ok (.bool (!decide (x = y))) w := by
  have u3 := Tryz.underlying3
  have a3 := Tryz.isAgg3
  have z3 := Tryz.sizeOf3
  have u4 := Tryz.underlying4
  have a4 := Tryz.isAgg4
  have z4 := Tryz.sizeOf4
  have u9 := Tryz.underlying9
  have a9 := Tryz.isAgg9
  have z9 := Tryz.sizeOf9
  have hS : Tryz.prog.underlying 62 = some (.struct (Tryz.prog.fieldsOf 62)) := by kernel_rfl
  have hp : Tryz.prog.stoodInHeld 62 = false := by kernel_rfl
  rw [ty_eq]
  have q0 := toB_beq x.full y.full
  generalize decide (x.full = y.full) = b0 at *
  have q1 := bool_beq9 x.enum y.enum
  generalize decide (x.enum = y.enum) = b1 at *
  have q2 := nat_beq9 x.index y.index
  generalize decide (x.index = y.index) = b2 at *
  have q3 := nat_beq9 x.line y.line
  generalize decide (x.line = y.line) = b3 at *
  have q4 := nat_beq9 x.col y.col
  generalize decide (x.col = y.col) = b4 at *
  unfold tyC
  rw [run_neq_struct, show (10000 : Nat) = 9999 + 1 from rfl, run_equalIn_agg w 9999 62 _ _ hS hp]
  simp only [Program.fieldsOf, Tryz.underlying62]
  cases b0
  · go_simp
  cases b1
  · go_simp
  cases b2
  · go_simp
  cases b3
  · go_simp
  cases b4 <;> go_simp
/-- what two looks tell is the same -/
theorem eqlO {r : Option Sc.Ty} (w : World) : ∃ z : Sc.Ty, tyO r = tyC z := by
  cases r with
  | none => exact ⟨⟨[], false, 0, 0, 0⟩, rfl⟩
  | some t => exact ⟨t, rfl⟩
theorem eqlRTy (r : Option Sc.Ty) (w : World) : (binOp .eql 62 (.agg (tyO r).toArray) (.agg (tyO r).toArray)).run Tryz.prog w = .ok (.bool true) w := by
  obtain ⟨z, hz⟩ := eqlO (r := r) w
  rw [hz]
  have h := neqRTy z z w
  rw [run_neq_struct] at h
  rw [run_eql_struct]
  rw [decide_eq_true rfl] at h
  cases hq : (Op.equalIn 10000 62 (.agg (tyC z).toArray) (.agg (tyC z).toArray)).run Tryz.prog w with
  | ok b w' =>
    rw [hq] at h
    simp only [Result.andThen_ok, Result.ok.injEq, Value.bool.injEq] at h ⊢
    obtain ⟨h1, h2⟩ := h
    exact ⟨by simpa using h1, h2⟩
  | _ => rw [hq] at h; simp [Result.andThen] at h

/-- a file without fault is short and not deep; a fault is told by a number -/
def SPost (w : World) (e : Ending) (w' : World) : Prop :=
  Below w.heap.size w w' ∧ ((∃ g, e = .returned (.tuple #[.agg zFl.toArray, .iface 80 (.pointer (some ⟨g, 0, none⟩))])) ∨
    ∃ f cs, e = .returned (.tuple #[.agg cs.toArray, .nilIface]) ∧ FilR (frag w') f cs ∧ Sx.DeepF f ∧ (Sc.raws f).length ≤ 5000 ∧ Sx.DotF f)
theorem spost_any (A : Nat → Addr) (s : ByteArray) (w : World) (hV : VarsD A w) (hm : s.size ≤ maxLen) :
    Calls Tryz.prog 10 #[.string s] w (SPost w) := by
  have h := text_of_any A s w hV hm
  refine h.mono (fun e w' hp => ?_)
  unfold ParsePost at hp
  obtain ⟨hb, hp⟩ := hp
  refine ⟨hb, ?_⟩
  cases hX : Lx.split s.data.toList with
  | bad n q =>
    rw [hX] at hp
    obtain ⟨g, rfl, _⟩ := hp
    exact .inl ⟨g, rfl⟩
  | ok ts =>
    rw [hX] at hp
    have hs := split_few hX
    change match (Sx.parse ts).2 with
      | none => ∃ cs, e = .returned (.tuple #[.agg cs.toArray, .nilIface]) ∧ FilR (fragU w' w.heap.size []) (Sx.parse ts).1 cs
      | some x => ∃ g, e = .returned (.tuple #[.agg zFl.toArray, .iface 80 (.pointer (some ⟨g, 0, none⟩))]) ∧ Blk w' g [.int .i64 (x.2.1 : Nat), .int .i64 (x.2.2 : Nat), errV (A (x.1 - 1))] at hp
    cases hr : (Sx.parse ts).2 with
    | some x =>
      rw [hr] at hp
      obtain ⟨g, rfl, _⟩ := hp
      exact .inl ⟨g, rfl⟩
    | none =>
      rw [hr] at hp
      obtain ⟨cs, rfl, hf⟩ := hp
      exact .inr ⟨_, cs, rfl, hf.mono (fragU_le _ _ _), Sx.parse_deep hs, Nat.le_trans (Sx.parse_ty ts) hs.few, Sx.parse_dotm (by
        unfold Lx.split at hX
        split at hX
        · cases hX
        · exact Sx.dot_split hX)⟩
theorem fil_form {h : Frag} {f : Sx.Fil} {cs : List Value} (hf : FilR h f cs) : cs.length = 3 ∧ ∀ u ∈ cs, u.oneCell' = true := by
  obtain ⟨v1, v2, mss, ess, rfl, ⟨q1, q2⟩, _⟩ := hf
  refine ⟨rfl, ?_⟩
  intro u hu; simp only [List.mem_cons, List.not_mem_nil, or_false] at hu
  rcases hu with rfl | rfl | rfl
  · rfl
  · exact flatC_one q1
  · exact flatC_one q2
theorem toB_self (b : ByteArray) : toB b.data.toList = b := rfl
theorem add_num (l : List Sc.Ty) (r : List Sc.Raw) (x : Sc.Bad) (h : (Sc.addAll l r).2 = some x) : x.1 = 11 ∨ x.1 = 3 := by
  induction r generalizing l with
  | nil => cases h
  | cons y r ih =>
    rw [addAll_step] at h
    by_cases c : (Sc.add1 l y).2.isSome = true
    · rw [if_pos c] at h
      unfold Sc.add1 at h
      split at h
      · cases h; exact .inl rfl
      · split at h
        · cases h; exact .inr rfl
        · cases h
    · rw [if_neg c] at h
      exact ih _ h
theorem table_uniq (f : Sx.Fil) : Sc.Uniq (Sc.table f).1 := Sc.addAll_uniq (l := []) (by unfold Sc.Uniq Sc.fulls; exact List.nodup_nil) _
theorem table_few (f : Sx.Fil) : (Sc.table f).1.length ≤ 40 := Sc.addAll_few (by decide) _

end Go.Proofs.YtiofhfcohhfihaaGreatDoor

namespace Go.Proofs.YtiofhfcohhfihaaGreatDoor
open Go.RowKit
set_option linter.unusedVariables false
set_option linter.unusedSimpArgs false

theorem one_tys (l : List Sc.Ty) : ∀ u ∈ l.flatMap tyC, u.oneCell' = true := by
  intro u hu
  obtain ⟨x, _, hx⟩ := List.mem_flatMap.1 hu
  exact one_tyC _ u hx
/-- a list of types of its own -/
def TypesPost (w : World) (l : List Sc.Ty) (e : Ending) (w' : World) : Prop := ∃ v, e = .returned v ∧ FlatV tyC (frag w') v l ∧ Below w.heap.size w w'

set_option maxHeartbeats 2000000 in
set_option maxRecDepth 100000 in
theorem clone_any (v : Value) (l : List Sc.Ty) (w : World) (hl : l.length ≤ 40) (h : FlatV tyC (frag w) v l) :
    Calls Tryz.prog 59 #[v] w (TypesPost w l) := by
  obtain ⟨a, c, rfl, hlc, hcm, hz, hrow⟩ := h
  cases a with
  | none =>
    have hc := hz rfl
    subst hc
    have hl0 : l = [] := List.eq_nil_of_length_eq_zero (by omega)
    subst hl0
    have hnl : ∀ w, (binOp .eql 70 (.slice none 0 0) (.slice none 0 0)).run Tryz.prog w = .ok (.bool true) w := fun w => run_eql_nil_slice w _ _ none 0 0 0 0 Tryz.underlying70
    go_enter Tryz.func59, Tryz.ntmps59
    go_wp2_with fail
    go_ret
    exact ⟨_, rfl, ⟨none, 0, rfl, Nat.le_refl _, Nat.zero_le _, fun _ => rfl, .inl rfl⟩, Below.refl _ _⟩
  | some p =>
    have Hrow := Lib.hid hrow; have Hlc := Lib.hid hlc
    have hlen := flat_len tyC_len l
    have HLen := Lib.hid hlen
    obtain ⟨n, hn⟩ : ∃ n, n = l.length := ⟨_, rfl⟩
    rw [← hn] at hl Hlc HLen ⊢
    have Hn := Lib.hid hn.symm
    have Hl := Lib.hid hl
    have hba : Below w.heap.size w (w.alloc (.cells #[] 59)) := (Below.refl _ _).alloc (Nat.le_refl _) _
    have HBa := Lib.hid hba
    have HO := Lib.hid (World.ownsRow_lit (base := w.heap.size) (e := 59) (size := 5) w #[] 0 (Nat.le_refl _) (by decide) rfl)
    have Hrow2 := Lib.hid (hrow.mono (below_le hba))
    have hsz : (w.alloc (.cells #[] 59)).heap.size = w.heap.size + 1 := by simp
    have Hsz := Lib.hid hsz
    have hnl : ∀ w, (binOp .eql 70 (.slice (some p) n c) (.slice none 0 0)).run Tryz.prog w = .ok (.bool false) w := fun w => run_eql_nil_slice w _ _ (some p) n c 0 0 Tryz.underlying70
    clear hrow hlc hlen hz hcm hn hl hba hsz
    go_enter Tryz.func59, Tryz.ntmps59
    go_wp2_with (at_builtin; refine wpList_append_opt T_Ty rfl _ _ rfl rfl HO.out rfl (fun e => by cases e) Hlc.out Hrow2.out HLen.out (one_tys l) ?_ ?_ ?_; (· have := Hl.out; omega); (· have := Hsz.out; omega); (intro v2 w2 hown2 hgr2 hat2))
    go_ret
    have hb2 : Below w.heap.size w w2 := Below.grown HBa.out hgr2 HBa.out.size (fun k hk => (HO.out.lt k hk).1)
    have h1 := FlatV.of_owns (f := tyC) (E := []) (n := n) (xs := l) (by simpa using hown2) Hn.out (.inr (by simp))
    rw [fragE_nil] at h1
    exact ⟨_, rfl, h1, hb2⟩

set_option maxHeartbeats 2000000 in
set_option maxRecDepth 100000 in
theorem types_any (w0 : World) (g : Nat) (K : List (Nat × List Value)) (l : List Sc.Ty) (w : World) (hT : Tab w0 g K l w) (hl : l.length ≤ 40) :
    Calls Tryz.prog 26 #[.pointer (some ⟨g, 0, none⟩)] w (TypesPost w l) := by
  obtain ⟨v, b, hT⟩ := hT
  obtain ⟨va, vc, rfl⟩ := own_sl hT.own
  have c0 : w.cell? ⟨g, 0, none⟩ = some (.slice va l.length vc) := hT.blk.cell (o := 0) rfl
  have h1 := FlatV.of_owns (f := tyC) (E := []) (n := l.length) (xs := l) hT.own rfl (.inr (by simp))
  rw [fragE_nil] at h1
  have HC := Lib.hid (clone_any _ l w hl h1)
  unfold TypesPost at HC ⊢
  clear hT h1
  generalize l.length = n at *
  go_enter Tryz.func26, Tryz.ntmps26
  go_wp2_with fail
  refine HC.out.mono ?_
  rintro e w1 ⟨u, rfl, hu, hb⟩
  go_wp2_with fail
  go_ret
  exact ⟨_, rfl, hu, hb⟩

def namesOf (l : List Sc.Ty) (e : Bool) : List Lx.Bs := (l.filter fun t => t.enum == e).map (·.full)
theorem namesOf_snoc (l : List Sc.Ty) (t : Sc.Ty) (e : Bool) : namesOf (l ++ [t]) e = if t.enum = e then namesOf l e ++ [t.full] else namesOf l e := by
  unfold namesOf
  rw [List.filter_append, List.map_append]
  by_cases h : t.enum = e
  · rw [if_pos h, List.filter_cons_of_pos (by simp [h])]; rfl
  · rw [if_neg h, List.filter_cons_of_neg (by simp [h])]; simp
theorem namesOf_len (l : List Sc.Ty) (e : Bool) : (namesOf l e).length ≤ l.length := by unfold namesOf; rw [List.length_map]; exact List.length_filter_le _ _
theorem namesOf_take (l : List Sc.Ty) (e : Bool) {k : Nat} (h : k < l.length) : namesOf (l.take (k + 1)) e = if l[k].enum = e then namesOf (l.take k) e ++ [l[k].full] else namesOf (l.take k) e := by
  rw [List.take_succ_eq_append_getElem h, namesOf_snoc]
theorem zinfoStr : (Tryz.prog.info? 9).map (fun i => (i.size, i.zero.map (fun z => z.cells.size))) = some (1, some 1) := by kernel_rfl
theorem one_sC9 (s : Lx.Bs) : ∀ u ∈ sC s, u.oneCell' = true := by intro u hu; rw [List.mem_singleton.1 hu]; rfl
/-- texts in a row of its own -/
def StrsPost (w : World) (l : List Lx.Bs) (e : Ending) (w' : World) : Prop := ∃ v, e = .returned v ∧ FlatV sC (frag w') v l ∧ Below w.heap.size w w'

set_option maxHeartbeats 4000000 in
set_option maxRecDepth 100000 in
theorem names_any (w0 : World) (g : Nat) (K : List (Nat × List Value)) (l : List Sc.Ty) (en : Bool) (w : World) (hT : Tab w0 g K l w) (hl : l.length ≤ 40) :
    Calls Tryz.prog 64 #[.pointer (some ⟨g, 0, none⟩), .bool en] w (StrsPost w (namesOf l en)) := by
  obtain ⟨v, b, hT⟩ := hT
  obtain ⟨va, vc, rfl⟩ := own_sl hT.own
  have c0 : w.cell? ⟨g, 0, none⟩ = some (.slice va l.length vc) := hT.blk.cell (o := 0) rfl
  have h1 := FlatV.of_owns (f := tyC) (E := []) (n := l.length) (xs := l) hT.own rfl (.inr (by simp))
  rw [fragE_nil] at h1
  have HF := Lib.hid h1
  have HNl := Lib.hid (fun k => Nat.le_trans (namesOf_len (l.take k) en) (List.length_take_le k l))
  unfold StrsPost
  obtain ⟨n, hn⟩ : ∃ n, n = l.length := ⟨_, rfl⟩
  rw [← hn] at HF c0 hl
  have Hn := Lib.hid hn.symm
  have Hl := Lib.hid hl
  have hns : n ≤ 9223372036854775807 := by omega
  clear hT h1 hn hl
  go_enter Tryz.func64, Tryz.ntmps64
  go_wp2_with fail
  go_loopw [5, 13] (fun ov iv wr => ∃ k : Nat, k ≤ n ∧ iv = .int .i64 k ∧ Hid (wr.ownsRow w.heap.size 9 1 ov (namesOf (l.take k) en).length ((namesOf (l.take k) en).flatMap sC)) ∧ Hid (Below w.heap.size w wr)) (fun _ iv _ => n - (intOf iv).toNat)
  case atStart => exact ⟨0, Nat.zero_le _, rfl, Lib.hid (World.ownsRow_nil _ _ _ _), Lib.hid (Below.refl _ _)⟩
  case round =>
    obtain ⟨k, hkn, rfl, HO, HB⟩ := hrel
    by_cases hlt : k < n
    · have hk : k < l.length := by rw [Hn.out]; exact hlt
      obtain ⟨d0, o0, hd0, hidx, hcell⟩ := FlatV.at (n := n) (cap := vc) (a := va) (HF.out.mono (below_le HB.out)) tyC_len (by decide) (i := k) hk Tryz.underlying70 sizeTys
      have hr : wr.rangeAt d0 o0 (tyC l[k]) := hcell
      have HT1 := Lib.hid (namesOf_take l en hk)
      have hfew : (namesOf (l.take k) en).length ≤ 40 := by
        have h1 := namesOf_len (l.take k) en
        rw [List.length_take] at h1
        have := Hl.out
        omega
      have Hfew := Lib.hid hfew
      clear hcell hfew
      generalize l[k] = y at *
      clear hk
      go_upto_region 5 with (first
        | (refine wpList_load_seg rfl 59 _ rfl _ _ rfl _ _ hr Tryz.underlying59 rfl infoTy ?_)
        | (refine wpList_alloc_lay rfl 59 rfl zTy zeroTy ?_; (intro w9 g10 hg9 hB9 hb9; clear hr))
        | (refine wpList_store_all rfl 59 _ _ rfl g10 (tyC y) rfl rfl zTy hB9 infoTy rfl (one_tyC _) ?_; (intro w10 hB10 hgr10; have hb10 := Below.grown hb9 hgr10 hb9.size (fun _ e => by cases e; exact hg9); clear hb9 hgr10 hB9)))
      have y0 : w10.cell? ⟨g10, 0, none⟩ = some (.string (toB y.full)) := hB10.cell (o := 0) rfl
      have y1 : w10.cell? ⟨g10, 1, none⟩ = some (.bool y.enum) := hB10.cell (o := 1) rfl
      have HO10 := Lib.hid (owns_below HO.out hb10)
      have HB10 := Lib.hid (HB.out.trans (hb10.mono HB.out.size))
      clear hb10 hg9 hidx hd0 hB10
      by_cases h : y.enum = en
      · have q : (y.enum == en) = true := beq_iff_eq.2 h
        rw [if_pos h] at HT1
        clear h
        go_wp2_with (first
          | (refine wpList_buildSlice1 rfl 44 9 _ rfl (sC y.full) (.string (toB y.full)) rfl Tryz.underlying44 zinfoStr (show 0 < 1 by decide) (show 1 ≤ 1000 by decide) rfl ?_)
          | (at_builtin; refine wpList_append_own1 T_St rfl _ _ rfl (sC y.full) rfl (B := w.heap.size) (n := (namesOf (l.take k) en).length) (v := u5) HO10.out rfl rfl (one_sC9 _) ?_ HB10.out.size ?_; (· have := Hfew.out; omega); (intro v11 w11 hown11 hgr11 hat11 hone11)))
        have HO11 : Hid (w11.ownsRow w.heap.size 9 1 v11 (namesOf (l.take (k + 1)) en).length ((namesOf (l.take (k + 1)) en).flatMap sC)) := Lib.hid (by
          rw [HT1.out, List.length_append, List.flatMap_append]
          simpa using hown11)
        have HB11 : Hid (Below w.heap.size w w11) := Lib.hid (Below.grown HB10.out hgr11 HB10.out.size (fun k hk => (HO10.out.lt k hk).1))
        clear hown11 hgr11 hat11
        go_roundw
        case rel => exact ⟨k + 1, by omega, by go_num, HO11, HB11⟩
        case measure => simp [intOf]; omega
      · have q : (y.enum == en) = false := beq_eq_false_iff_ne.2 h
        rw [if_neg h] at HT1
        have HO11 : Hid (w10.ownsRow w.heap.size 9 1 u5 (namesOf (l.take (k + 1)) en).length ((namesOf (l.take (k + 1)) en).flatMap sC)) := Lib.hid (by rw [HT1.out]; exact HO10.out)
        clear h
        go_wp2_with fail
        go_roundw
        case rel => exact ⟨k + 1, by omega, by go_num, HO11, HB10⟩
        case measure => simp [intOf]; omega
    · obtain rfl : n = k := by omega
      have HFe : Hid (FlatV sC (frag wr) u5 (namesOf l en)) := Lib.hid (by
        have h1 := HO.out
        rw [List.take_of_length_le (by rw [Hn.out]; exact Nat.le_refl _)] at h1
        have h2 := FlatV.of_owns (f := sC) (E := []) h1 rfl (.inr (by simp))
        rw [fragE_nil] at h2; exact h2)
      clear HO hkn hlt
      go_wp2_with fail
      go_ret
      exact ⟨_, rfl, HFe.out, HB.out⟩
set_option maxHeartbeats 1000000 in
theorem messages9_any (w0 : World) (g : Nat) (K : List (Nat × List Value)) (l : List Sc.Ty) (w : World) (hT : Tab w0 g K l w) (hl : l.length ≤ 40) :
    Calls Tryz.prog 30 #[.pointer (some ⟨g, 0, none⟩)] w (StrsPost w (namesOf l false)) := by
  have HC := Lib.hid (names_any w0 g K l false w hT hl)
  unfold StrsPost at HC ⊢
  go_enter Tryz.func30, Tryz.ntmps30
  go_wp2_with fail
  refine HC.out.mono ?_
  rintro e w1 ⟨u, rfl, hu, hb⟩
  go_wp2_with fail
  go_ret
  exact ⟨_, rfl, hu, hb⟩
set_option maxHeartbeats 1000000 in
theorem enums9_any (w0 : World) (g : Nat) (K : List (Nat × List Value)) (l : List Sc.Ty) (w : World) (hT : Tab w0 g K l w) (hl : l.length ≤ 40) :
    Calls Tryz.prog 31 #[.pointer (some ⟨g, 0, none⟩)] w (StrsPost w (namesOf l true)) := by
  have HC := Lib.hid (names_any w0 g K l true w hT hl)
  unfold StrsPost at HC ⊢
  go_enter Tryz.func31, Tryz.ntmps31
  go_wp2_with fail
  refine HC.out.mono ?_
  rintro e w1 ⟨u, rfl, hu, hb⟩
  go_wp2_with fail
  go_ret
  exact ⟨_, rfl, hu, hb⟩

end Go.Proofs.YtiofhfcohhfihaaGreatDoor
