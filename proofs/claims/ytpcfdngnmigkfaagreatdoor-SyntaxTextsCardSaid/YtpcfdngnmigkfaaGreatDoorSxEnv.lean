/- Package syntax, walked: what the parser's calls find in the world; a field's block; messages in memory. -/
import Derived.Test.YtpcfdngnmigkfaaGreatDoorGroupD
import Derived.Test.YtpcfdngnmigkfaaGreatDoorGroupA
set_option linter.unusedVariables false
set_option linter.unusedSimpArgs false
namespace Go.Proofs.YtpcfdngnmigkfaaGreatDoor
open Go.RowKit
structure Env (A : Nat → Addr) (p : Nat) (v : Value) (ts : List Lx.Tok) (w : World) : Prop where
 vars : Vars A w
 glt : GLt p
 depth : w.cell? ⟨2, 0, none⟩ = some (errV (A 7))
 dlt : 2 < p
 low : FlatV tC (fragB w p) v ts
 small : Small ts
theorem Env.below {A : Nat → Addr} {p : Nat} {v : Value} {ts : List Lx.Tok} {w w' : World} (h : Env A p v ts w) (hb : Below p w w') : Env A p v ts w' :=
 ⟨h.vars.keep hb h.glt, h.glt, (hb.cell (p := ⟨_, _, _⟩) h.dlt).trans h.depth, h.dlt, h.low.mono (fragB_below hb), h.small⟩
theorem Env.kept {A : Nat → Addr} {p : Nat} {v : Value} {ts : List Lx.Tok} {w w' : World} {S : List Nat} (h : Env A p v ts w) (hk : Kept S w w') (hp : p < w.heap.size) (hS : ∀ k ∈ S, p ≤ k) : Env A p v ts w' :=
 h.below (hk.below (Nat.le_of_lt hp) hS)
structure KeptB (B : Nat) (S : List Nat) (w w' : World) : Prop where
 os : w'.os = w.os
 tape : w'.tape = w.tape
 output : w'.output = w.output
 size : w.heap.size ≤ w'.heap.size
 block : ∀ k, k < B → k ∉ S → w'.heap[k]? = w.heap[k]?
theorem KeptB.refl (B : Nat) (S : List Nat) (w : World) : KeptB B S w w := ⟨rfl, rfl, rfl, Nat.le_refl _, fun _ _ _ => rfl⟩
theorem KeptB.trans {B : Nat} {S : List Nat} {a b c : World} (h : KeptB B S a b) (k : KeptB B S b c) : KeptB B S a c :=
 ⟨k.os.trans h.os, k.tape.trans h.tape, k.output.trans h.output, Nat.le_trans h.size k.size, fun i hi hS => (k.block i hi hS).trans (h.block i hi hS)⟩
theorem KeptB.of_kept {B : Nat} {S S' : List Nat} {a b : World} (h : Kept S a b) (hB : B ≤ a.heap.size) (hs : ∀ k ∈ S, k < B → k ∈ S') : KeptB B S' a b :=
 ⟨h.os, h.tape, h.output, h.size, fun k hk hn => h.block k (Nat.lt_of_lt_of_le hk hB) (fun hm => hn (hs k hm hk))⟩
theorem KeptB.of_grown {B : Nat} {S : List Nat} {a b : World} {X : Option Nat} (h : a.grownBy b X) (hB : B ≤ a.heap.size) (hs : ∀ k, X = some k → B ≤ k ∨ k ∈ S) : KeptB B S a b :=
 ⟨h.os, h.tape, h.output, h.size, fun k hk hn => h.block k (Nat.lt_of_lt_of_le hk hB) (fun e => by rcases hs k e.symm with h1 | h1; omega; exact hn h1)⟩
theorem KeptB.kept {B : Nat} {S : List Nat} {a b : World} (h : KeptB B S a b) (hB : a.heap.size ≤ B) : Kept S a b := ⟨h.os, h.tape, h.output, h.size, fun k hk hn => h.block k (Nat.lt_of_lt_of_le hk hB) hn⟩
theorem KeptB.mono {B B' : Nat} {S S' : List Nat} {a b : World} (h : KeptB B S a b) (hB : B' ≤ B) (hs : ∀ k ∈ S, k < B' → k ∈ S') : KeptB B' S' a b :=
 ⟨h.os, h.tape, h.output, h.size, fun k hk hn => h.block k (Nat.lt_of_lt_of_le hk hB) (fun hm => hn (hs k hm hk))⟩
theorem KeptB.below {B p : Nat} {S : List Nat} {a b : World} (h : KeptB B S a b) (hp : p ≤ B) (hS : ∀ k ∈ S, p ≤ k) : Below p a b :=
 ⟨h.os, h.tape, h.output, h.size, fun k hk => h.block k (Nat.lt_of_lt_of_le hk hp) (fun hm => by have := hS k hm; omega)⟩
theorem KeptB.drew {B : Nat} {S : List Nat} {a b : World} (h : KeptB B S a b) : KeptB B S a b.drew := ⟨h.os, h.tape, h.output, h.size, h.block⟩
theorem KeptB.blk {B : Nat} {S : List Nat} {a b : World} {g : Nat} {cs : List Value} (h : KeptB B S a b) (hb : Blk a g cs) (hg : g < B) (hS : g ∉ S) : Blk b g cs := by
 obtain ⟨t, e⟩ := hb
 exact ⟨t, (h.block g hg hS).trans e⟩
theorem Kept.grown {p : Nat} {a b : World} (h : Kept [p] a b) : a.grownBy b (some p) := ⟨h.os, h.tape, h.output, h.size, fun k hk hn => h.block k hk (fun hm => hn (by rw [List.mem_singleton.1 hm]))⟩
theorem Kept.since {p g : Nat} {w a b : World} (h : Below w.heap.size w a) (k : Kept [p, g] a b) (hg : w.heap.size ≤ g) : Kept [p] w b :=
 ⟨k.os.trans h.os, k.tape.trans h.tape, k.output.trans h.output, Nat.le_trans h.size k.size, fun i hi hS => (k.block i (Nat.lt_of_lt_of_le hi h.size) (fun hm => by
  simp only [List.mem_cons, List.not_mem_nil, or_false] at hm hS
  rcases hm with hm | hm
  ·exact hS hm
  ·omega)).trans (h.block i hi)⟩
theorem Kept.trans2 {p g : Nat} {w a b : World} (h : Kept [p] w a) (k : Kept [p, g] a b) (hg : w.heap.size ≤ g) : Kept [p] w b :=
 ⟨k.os.trans h.os, k.tape.trans h.tape, k.output.trans h.output, Nat.le_trans h.size k.size, fun i hi hS => (k.block i (Nat.lt_of_lt_of_le hi h.size) (fun hm => by
  simp only [List.mem_cons, List.not_mem_nil, or_false] at hm hS
  rcases hm with hm | hm
  ·exact hS hm
  ·omega)).trans (h.block i hi hS)⟩
theorem Par.again {A : Nat → Addr} {p : Nat} {v : Value} {ts : List Lx.Tok} {s : Sx.St} {w' : World} {ev : Value} (hE : Env A p v ts w') (hB : Blk w' p [v, .int .i64 (s.pos : Nat), ev]) (he : ErrAt A p w' s.err ev) (hl : s.pos ≤ ts.length) : Par A p v ts s w' :=
 ⟨ev, hB, he, hE.low.mono (fragB_E w' (fun k hk => by simp only [List.mem_cons, List.not_mem_nil, or_false, Option.some.injEq] at hk; omega)), hl⟩
theorem Par.wrote {A : Nat → Addr} {p g : Nat} {v : Value} {ts : List Lx.Tok} {s : Sx.St} {w w' : World} {cs : List Value} (hE : Env A p v ts w) (h : Par A p v ts s w) (hB : Blk w g cs) (hl : cs.length ≠ 3) (hg : w.grownBy w' (some g)) (hgp : p < g) : Par A p v ts s w' ∧ Env A p v ts w' := by
 have hp := h.lt
 have hE' := hE.below (Below.grown (Below.refl _ _) hg (Nat.le_of_lt hp) (fun k e => by cases e; omega))
 obtain ⟨ev, hBp, he, _, hln⟩ := h
 exact ⟨Par.again hE' (hBp.grown hg (fun e => by cases e; omega)) (he.other hB hl hg) hln, hE'⟩
theorem Par.rowed {A : Nat → Addr} {p : Nat} {v : Value} {ts : List Lx.Tok} {s : Sx.St} {w w' : World} {base : Nat} {e : TypeId} {size n : Nat} {u : Value} {xs : List Value} (hE : Env A p v ts w) (h : Par A p v ts s w) (ho : w.ownsRow base e size u n xs) (hne : e ≠ 75) (hb : p < base) (hg : w.grownBy w' u.ownBlock) : Par A p v ts s w' ∧ Env A p v ts w' := by
 have hp := h.lt
 have hge : ∀ k, u.ownBlock = some k → p < k := fun k hk => by have := (ho.lt k hk).1; omega
 have hE' := hE.below (Below.grown (Below.refl _ _) hg (Nat.le_of_lt hp) (fun k e => Nat.le_of_lt (hge k e)))
 obtain ⟨ev, hBp, he, _, hln⟩ := h
 exact ⟨Par.again hE' (hBp.grown hg (fun e => by have := hge p e.symm; omega)) (he.row ho hne hg) hln, hE'⟩
def fC (f : Sx.Fld) : List Value := [.string (toB f.name), .string (toB f.typ), .string (toB f.mapKey), .string (toB f.key), .int .i64 f.label, .int .i64 f.number, .int .i64 f.packed, .int .i64 f.oneof, .int .i64 f.line, .int .i64 f.col]
def vC (x : Sx.Val) : List Value := [.string (toB x.name), .int .i64 x.number, .int .i64 x.line, .int .i64 x.col]
def rC (x : Sx.Rng) : List Value := [.int .i64 x.lo, .int .i64 x.hi]
def sC (s : Lx.Bs) : List Value := [.string (toB s)]
theorem fC_len (f : Sx.Fld) : (fC f).length = 10 := rfl
theorem vC_len (f : Sx.Val) : (vC f).length = 4 := rfl
theorem rC_len (f : Sx.Rng) : (rC f).length = 2 := rfl
theorem sC_len (f : Lx.Bs) : (sC f).length = 1 := rfl
theorem one_fC (f : Sx.Fld) : ∀ u ∈ fC f, u.oneCell' = true := by intro u hu; simp only [fC, List.mem_cons, List.not_mem_nil, or_false] at hu; rcases hu with rfl | rfl | rfl | rfl | rfl | rfl | rfl | rfl | rfl | rfl <;> rfl
theorem one_vC (f : Sx.Val) : ∀ u ∈ vC f, u.oneCell' = true := by intro u hu; simp only [vC, List.mem_cons, List.not_mem_nil, or_false] at hu; rcases hu with rfl | rfl | rfl | rfl <;> rfl
theorem one_rC (f : Sx.Rng) : ∀ u ∈ rC f, u.oneCell' = true := by intro u hu; simp only [rC, List.mem_cons, List.not_mem_nil, or_false] at hu; rcases hu with rfl | rfl <;> rfl
theorem one_sC (f : Lx.Bs) : ∀ u ∈ sC f, u.oneCell' = true := by intro u hu; simp only [sC, List.mem_cons, List.not_mem_nil, or_false] at hu; subst hu; rfl
def zF : List Value := [.string ⟨#[]⟩, .string ⟨#[]⟩, .string ⟨#[]⟩, .string ⟨#[]⟩, .int .i64 0, .int .i64 0, .int .i64 0, .int .i64 0, .int .i64 0, .int .i64 0]
def zVl : List Value := [.string ⟨#[]⟩, .int .i64 0, .int .i64 0, .int .i64 0]
def zEn : List Value := [.string ⟨#[]⟩, .slice none 0 0, .int .i64 0, .int .i64 0]
def zMs : List Value := [.string ⟨#[]⟩, .slice none 0 0, .slice none 0 0, .slice none 0 0, .slice none 0 0, .slice none 0 0, .slice none 0 0, .int .i64 0, .int .i64 0]
def zRg : List Value := [.int .i64 0, .int .i64 0]
def zFl : List Value := [.string ⟨#[]⟩, .slice none 0 0, .slice none 0 0]
theorem zeroF : (Tryz.prog.info? 47).map (·.zero) = some (some (.agg zF.toArray)) := by kernel_rfl
theorem zeroVl : (Tryz.prog.info? 116).map (·.zero) = some (some (.agg zVl.toArray)) := by kernel_rfl
theorem zeroEn : (Tryz.prog.info? 71).map (·.zero) = some (some (.agg zEn.toArray)) := by kernel_rfl
theorem zeroMs : (Tryz.prog.info? 45).map (·.zero) = some (some (.agg zMs.toArray)) := by kernel_rfl
theorem zeroRg : (Tryz.prog.info? 115).map (·.zero) = some (some (.agg zRg.toArray)) := by kernel_rfl
theorem zeroFl : (Tryz.prog.info? 26).map (·.zero) = some (some (.agg zFl.toArray)) := by kernel_rfl
theorem infoF : (Tryz.prog.info? 47).map (·.size) = some 10 := by kernel_rfl
theorem infoVl : (Tryz.prog.info? 116).map (·.size) = some 4 := by kernel_rfl
theorem infoEn : (Tryz.prog.info? 71).map (·.size) = some 4 := by kernel_rfl
theorem infoMs : (Tryz.prog.info? 45).map (·.size) = some 9 := by kernel_rfl
theorem infoRg : (Tryz.prog.info? 115).map (·.size) = some 2 := by kernel_rfl
theorem infoFl : (Tryz.prog.info? 26).map (·.size) = some 3 := by kernel_rfl
theorem T_F : SliceT Tryz.prog 41 47 (.agg zF.toArray) 10 112 := ⟨Tryz.underlying41, by kernel_rfl, rfl, by decide, by decide⟩
theorem T_Vl : SliceT Tryz.prog 69 116 (.agg zVl.toArray) 4 40 := ⟨Tryz.underlying69, by kernel_rfl, rfl, by decide, by decide⟩
theorem T_En : SliceT Tryz.prog 24 71 (.agg zEn.toArray) 4 56 := ⟨Tryz.underlying24, by kernel_rfl, rfl, by decide, by decide⟩
theorem T_Ms : SliceT Tryz.prog 23 45 (.agg zMs.toArray) 9 176 := ⟨Tryz.underlying23, by kernel_rfl, rfl, by decide, by decide⟩
theorem T_Rg : SliceT Tryz.prog 43 115 (.agg zRg.toArray) 2 16 := ⟨Tryz.underlying43, by kernel_rfl, rfl, by decide, by decide⟩
theorem T_St : SliceT Tryz.prog 42 9 (.string ⟨#[]⟩) 1 16 := ⟨Tryz.underlying42, by kernel_rfl, rfl, by decide, by decide⟩
def FlatB {α : Type} (f : α → List Value) (h : Frag) (v : Value) (xs : List α) : Prop := FlatV f h v xs ∧ xs.length ≤ 10000
def FlatD (s : Nat) (h : Frag) (v : Value) (es : List (List Value)) : Prop := FlatC s h v es ∧ es.length ≤ 10000
theorem FlatB.mono {α : Type} {f : α → List Value} {h h' : Frag} {v : Value} {xs : List α} (hl : FlatB f h v xs) (hle : FLe h h') : FlatB f h' v xs := ⟨hl.1.mono hle, hl.2⟩
theorem FlatD.mono {s : Nat} {h h' : Frag} {v : Value} {xs : List (List Value)} (hl : FlatD s h v xs) (hle : FLe h h') : FlatD s h' v xs := ⟨hl.1.mono hle, hl.2⟩
def EnmR (h : Frag) (e : Sx.Enm) (cs : List Value) : Prop := ∃ v, cs = [.string (toB e.name), v, .int .i64 e.line, .int .i64 e.col] ∧ FlatB vC h v e.values
def EnsR (h : Frag) : List Sx.Enm → List (List Value) → Prop
 | [], es => es = []
 | x :: r, es => ∃ xc er, es = xc :: er ∧ EnmR h x xc ∧ EnsR h r er
mutual
def MsgR (h : Frag) : Sx.Msg → List Value → Prop
 | .mk nm fs os ms es rs ns li co, cs => ∃ v1 v2 v3 v4 v5 v6 mss ess, cs = [.string (toB nm), v1, v2, v3, v4, v5, v6, .int .i64 li, .int .i64 co] ∧
   (FlatB fC h v1 fs ∧ FlatB sC h v2 os ∧ FlatD 9 h v3 mss ∧ FlatD 4 h v4 ess ∧ FlatB rC h v5 rs ∧ FlatB sC h v6 ns) ∧ MsgsR h ms mss ∧ EnsR h es ess
def MsgsR (h : Frag) : List Sx.Msg → List (List Value) → Prop
 | [], es => es = []
 | x :: r, es => ∃ xc er, es = xc :: er ∧ MsgR h x xc ∧ MsgsR h r er
end
def FilR (h : Frag) (f : Sx.Fil) (cs : List Value) : Prop := ∃ v1 v2 mss ess, cs = [.string (toB f.pack), v1, v2] ∧ (FlatD 9 h v1 mss ∧ FlatD 4 h v2 ess) ∧ MsgsR h f.msgs mss ∧ EnsR h f.enums ess
theorem EnmR.mono {h h' : Frag} (hle : FLe h h') {e : Sx.Enm} {cs : List Value} (he : EnmR h e cs) : EnmR h' e cs := by
 obtain ⟨v, h1, h2⟩ := he
 exact ⟨v, h1, h2.mono hle⟩
theorem EnsR.mono {h h' : Frag} (hle : FLe h h') : ∀ {xs : List Sx.Enm} {es : List (List Value)}, EnsR h xs es → EnsR h' xs es
 | [], es, hv => by rw [EnsR] at hv ⊢; exact hv
 | x :: r, es, hv => by
  rw [EnsR] at hv ⊢
  obtain ⟨xc, er, h1, h2, h3⟩ := hv
  exact ⟨xc, er, h1, h2.mono hle, EnsR.mono hle h3⟩
mutual
theorem MsgR.mono {h h' : Frag} (hle : FLe h h') : ∀ {m : Sx.Msg} {cs : List Value}, MsgR h m cs → MsgR h' m cs
 | .mk nm fs os ms es rs ns li co, cs, hv => by
  rw [MsgR] at hv ⊢
  obtain ⟨v1, v2, v3, v4, v5, v6, mss, ess, h1, ⟨q1, q2, q3, q4, q5, q6⟩, h2, h3⟩ := hv
  exact ⟨v1, v2, v3, v4, v5, v6, mss, ess, h1, ⟨q1.mono hle, q2.mono hle, q3.mono hle, q4.mono hle, q5.mono hle, q6.mono hle⟩, MsgsR.mono hle h2, EnsR.mono hle h3⟩
theorem MsgsR.mono {h h' : Frag} (hle : FLe h h') : ∀ {xs : List Sx.Msg} {es : List (List Value)}, MsgsR h xs es → MsgsR h' xs es
 | [], es, hv => by rw [MsgsR] at hv ⊢; exact hv
 | x :: r, es, hv => by
  rw [MsgsR] at hv ⊢
  obtain ⟨xc, er, h1, h2, h3⟩ := hv
  exact ⟨xc, er, h1, MsgR.mono hle h2, MsgsR.mono hle h3⟩
end
theorem FilR.mono {h h' : Frag} (hle : FLe h h') {f : Sx.Fil} {cs : List Value} (he : FilR h f cs) : FilR h' f cs := by
 obtain ⟨v1, v2, mss, ess, h1, ⟨q1, q2⟩, h2, h3⟩ := he
 exact ⟨v1, v2, mss, ess, h1, ⟨q1.mono hle, q2.mono hle⟩, h2.mono hle, h3.mono hle⟩
theorem EnsR.len {h : Frag} : ∀ {xs : List Sx.Enm} {es : List (List Value)}, EnsR h xs es → es.length = xs.length
 | [], es, hv => by rw [EnsR] at hv; simp [hv]
 | x :: r, es, hv => by
  rw [EnsR] at hv
  obtain ⟨xc, er, rfl, _, h3⟩ := hv
  simp [h3.len]
theorem MsgsR.len {h : Frag} : ∀ {xs : List Sx.Msg} {es : List (List Value)}, MsgsR h xs es → es.length = xs.length
 | [], es, hv => by rw [MsgsR] at hv; simp [hv]
 | x :: r, es, hv => by
  rw [MsgsR] at hv
  obtain ⟨xc, er, rfl, _, h3⟩ := hv
  simp [h3.len]
theorem EnsR.at {h : Frag} : ∀ {xs : List Sx.Enm} {es : List (List Value)} (_ : EnsR h xs es) {i : Nat} (hi : i < xs.length) (he : i < es.length), EnmR h xs[i] es[i]
 | x :: r, es, hv, i, hi, he => by
  rw [EnsR] at hv
  obtain ⟨xc, er, rfl, h2, h3⟩ := hv
  cases i with
  | zero => exact h2
  | succ i => exact h3.at (by simpa using hi) (by simpa using he)
theorem MsgsR.at {h : Frag} : ∀ {xs : List Sx.Msg} {es : List (List Value)} (_ : MsgsR h xs es) {i : Nat} (hi : i < xs.length) (he : i < es.length), MsgR h xs[i] es[i]
 | x :: r, es, hv, i, hi, he => by
  rw [MsgsR] at hv
  obtain ⟨xc, er, rfl, h2, h3⟩ := hv
  cases i with
  | zero => exact h2
  | succ i => exact h3.at (by simpa using hi) (by simpa using he)
theorem EnsR.snoc {h : Frag} {x : Sx.Enm} {xc : List Value} (hx : EnmR h x xc) : ∀ {xs : List Sx.Enm} {es : List (List Value)}, EnsR h xs es → EnsR h (xs ++ [x]) (es ++ [xc])
 | [], es, hv => by rw [EnsR] at hv; subst hv; rw [List.nil_append, List.nil_append, EnsR]; exact ⟨xc, [], rfl, hx, rfl⟩
 | y :: r, es, hv => by
  rw [EnsR] at hv
  obtain ⟨yc, er, rfl, h2, h3⟩ := hv
  rw [List.cons_append, List.cons_append, EnsR]; exact ⟨yc, _, rfl, h2, h3.snoc hx⟩
theorem MsgsR.snoc {h : Frag} {x : Sx.Msg} {xc : List Value} (hx : MsgR h x xc) : ∀ {xs : List Sx.Msg} {es : List (List Value)}, MsgsR h xs es → MsgsR h (xs ++ [x]) (es ++ [xc])
 | [], es, hv => by rw [MsgsR] at hv; subst hv; rw [List.nil_append, List.nil_append, MsgsR]; exact ⟨xc, [], rfl, hx, by rw [MsgsR]⟩
 | y :: r, es, hv => by
  rw [MsgsR] at hv
  obtain ⟨yc, er, rfl, h2, h3⟩ := hv
  rw [List.cons_append, List.cons_append, MsgsR]; exact ⟨yc, _, rfl, h2, h3.snoc hx⟩
theorem EnmR.size {h : Frag} {e : Sx.Enm} {cs : List Value} (he : EnmR h e cs) : cs.length = 4 := by obtain ⟨v, rfl, _⟩ := he; rfl
theorem MsgR.size {h : Frag} : ∀ {m : Sx.Msg} {cs : List Value}, MsgR h m cs → cs.length = 9
 | .mk nm fs os ms es rs ns li co, cs, hv => by rw [MsgR] at hv; obtain ⟨_, _, _, _, _, _, _, _, rfl, _⟩ := hv; rfl
theorem flatV_one {α : Type} {f : α → List Value} {h : Frag} {v : Value} {xs : List α} (hl : FlatB f h v xs) : v.oneCell' = true := by obtain ⟨⟨a, c, rfl, _⟩, _⟩ := hl; rfl
theorem flatC_one {s : Nat} {h : Frag} {v : Value} {xs : List (List Value)} (hl : FlatD s h v xs) : v.oneCell' = true := by obtain ⟨⟨a, c, rfl, _⟩, _⟩ := hl; rfl
theorem EnmR.one {h : Frag} {e : Sx.Enm} {cs : List Value} (he : EnmR h e cs) : ∀ u ∈ cs, u.oneCell' = true := by
 obtain ⟨v, rfl, h2⟩ := he
 intro u hu; simp only [List.mem_cons, List.not_mem_nil, or_false] at hu
 rcases hu with rfl | rfl | rfl | rfl
 ·rfl
 ·exact flatV_one h2
 ·rfl
 ·rfl
theorem MsgR.one {h : Frag} : ∀ {m : Sx.Msg} {cs : List Value}, MsgR h m cs → ∀ u ∈ cs, u.oneCell' = true
 | .mk nm fs os ms es rs ns li co, cs, hv => by
  rw [MsgR] at hv
  obtain ⟨v1, v2, v3, v4, v5, v6, mss, ess, rfl, ⟨q1, q2, q3, q4, q5, q6⟩, _⟩ := hv
  intro u hu; simp only [List.mem_cons, List.not_mem_nil, or_false] at hu
  rcases hu with rfl | rfl | rfl | rfl | rfl | rfl | rfl | rfl | rfl
  ·rfl
  ·exact flatV_one q1
  ·exact flatV_one q2
  ·exact flatC_one q3
  ·exact flatC_one q4
  ·exact flatV_one q5
  ·exact flatV_one q6
  ·rfl
  ·rfl
theorem MsgsR.sizes {h : Frag} : ∀ {xs : List Sx.Msg} {es : List (List Value)}, MsgsR h xs es → ∀ x ∈ es, x.length = 9
 | [], es, hv => by rw [MsgsR] at hv; subst hv; intro x hx; cases hx
 | y :: r, es, hv => by
  rw [MsgsR] at hv
  obtain ⟨yc, er, rfl, h2, h3⟩ := hv
  intro x hx
  rcases List.mem_cons.1 hx with rfl | hx
  ·exact h2.size
  ·exact h3.sizes x hx
theorem EnsR.sizes {h : Frag} : ∀ {xs : List Sx.Enm} {es : List (List Value)}, EnsR h xs es → ∀ x ∈ es, x.length = 4
 | [], es, hv => by rw [EnsR] at hv; subst hv; intro x hx; cases hx
 | y :: r, es, hv => by
  rw [EnsR] at hv
  obtain ⟨yc, er, rfl, h2, h3⟩ := hv
  intro x hx
  rcases List.mem_cons.1 hx with rfl | hx
  ·exact h2.size
  ·exact h3.sizes x hx
end Go.Proofs.YtpcfdngnmigkfaaGreatDoor
