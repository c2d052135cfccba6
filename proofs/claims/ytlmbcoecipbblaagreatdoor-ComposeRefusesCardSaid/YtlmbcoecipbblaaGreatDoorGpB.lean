/- The engine, part 1: immutable data and what holds them; names of a call's own. -/
import Derived.Test.YtlmbcoecipbblaaGreatDoorGpA
import Derived.Lib.MinMax
set_option linter.unusedVariables false
set_option linter.unusedSimpArgs false
namespace Go.Proofs.YtlmbcoecipbblaaGreatDoor
open Go.RowKit
inductive DV where
 | lit (v : Value)
 | sl (es : List (List DV))
 | pt (cs : List DV)
 | ifc (t : TypeId) (x : DV)
def litB (v : Value) : Bool := v.oneCell' && match v with
 | .string s => decide (s.size ≤ maxLen)
 | _ => true
theorem litB_one {v : Value} (h : litB v = true) : v.oneCell' = true := by unfold litB at h; rw [Bool.and_eq_true] at h; exact h.1
theorem litB_str {s : ByteArray} (h : litB (.string s) = true) : s.size ≤ maxLen := by unfold litB at h; rw [Bool.and_eq_true] at h; exact of_decide_eq_true h.2
mutual
def DR (h : Frag) : DV → Value → Prop
 | .lit v, x => x = v ∧ litB v = true
 | .sl es, x => ∃ s ess, FlatC s h x ess ∧ DRss h es ess
 | .pt cs, x => ∃ g ws t fr, x = .pointer (some ⟨g, 0, none⟩) ∧ h g = some (.cells ws t fr) ∧ DRs h cs ws.toList
 | .ifc t d, x => ∃ v, x = .iface t v ∧ DR h d v
def DRs (h : Frag) : List DV → List Value → Prop
 | [], ws => ws = []
 | c :: r, ws => ∃ v vs, ws = v :: vs ∧ DR h c v ∧ DRs h r vs
def DRss (h : Frag) : List (List DV) → List (List Value) → Prop
 | [], l => l = []
 | e :: r, l => ∃ v vs, l = v :: vs ∧ DRs h e v ∧ DRss h r vs
end
mutual
theorem DR.mono {h h' : Frag} (hl : FLe h h') : ∀ (d : DV) (x : Value), DR h d x → DR h' d x
 | .lit v, x, hx => by rw [DR] at hx ⊢; exact hx
 | .sl es, x, hx => by
  rw [DR] at hx ⊢
  obtain ⟨s, ess, h1, h2⟩ := hx
  exact ⟨s, ess, h1.mono hl, DRss.mono hl es ess h2⟩
 | .pt cs, x, hx => by
  rw [DR] at hx ⊢
  obtain ⟨g, ws, t, fr, h1, h2, h3⟩ := hx
  exact ⟨g, ws, t, fr, h1, hl _ _ h2, DRs.mono hl cs _ h3⟩
 | .ifc t d, x, hx => by
  rw [DR] at hx ⊢
  obtain ⟨v, h1, h2⟩ := hx
  exact ⟨v, h1, DR.mono hl d v h2⟩
theorem DRs.mono {h h' : Frag} (hl : FLe h h') : ∀ (d : List DV) (x : List Value), DRs h d x → DRs h' d x
 | [], x, hx => by rw [DRs] at hx ⊢; exact hx
 | c :: r, x, hx => by
  rw [DRs] at hx ⊢
  obtain ⟨v, vs, h1, h2, h3⟩ := hx
  exact ⟨v, vs, h1, DR.mono hl c v h2, DRs.mono hl r vs h3⟩
theorem DRss.mono {h h' : Frag} (hl : FLe h h') : ∀ (d : List (List DV)) (x : List (List Value)), DRss h d x → DRss h' d x
 | [], x, hx => by rw [DRss] at hx ⊢; exact hx
 | c :: r, x, hx => by
  rw [DRss] at hx ⊢
  obtain ⟨v, vs, h1, h2, h3⟩ := hx
  exact ⟨v, vs, h1, DRs.mono hl c v h2, DRss.mono hl r vs h3⟩
end
section
variable {h h' : Frag}
theorem DR.one : ∀ {d : DV} {x : Value}, DR h d x → x.oneCell' = true
 | .lit v, x, hx => by rw [DR] at hx; rw [hx.1]; exact litB_one hx.2
 | .sl es, x, hx => by rw [DR] at hx; obtain ⟨s, ess, ⟨a, c, rfl, _⟩, _⟩ := hx; rfl
 | .pt cs, x, hx => by rw [DR] at hx; obtain ⟨g, ws, t, fr, rfl, _⟩ := hx; rfl
 | .ifc t d, x, hx => by rw [DR] at hx; obtain ⟨v, rfl, _⟩ := hx; rfl
theorem DRs.len : ∀ {cs : List DV} {ws : List Value}, DRs h cs ws → ws.length = cs.length
 | [], ws, hx => by rw [DRs] at hx; rw [hx]; rfl
 | c :: r, ws, hx => by rw [DRs] at hx; obtain ⟨v, vs, rfl, _, h3⟩ := hx; rw [List.length_cons, List.length_cons, DRs.len h3]
theorem DRs.ones : ∀ {cs : List DV} {ws : List Value}, DRs h cs ws → ∀ u ∈ ws, u.oneCell' = true
 | [], ws, hx, u, hu => by rw [DRs] at hx; rw [hx] at hu; cases hu
 | c :: r, ws, hx, u, hu => by
  rw [DRs] at hx; obtain ⟨v, vs, rfl, h2, h3⟩ := hx
  rcases List.mem_cons.1 hu with rfl | hu
  ·exact h2.one
  ·exact DRs.ones h3 u hu
theorem DRs.at : ∀ {cs : List DV} {ws : List Value} {i : Nat} {c : DV}, DRs h cs ws → cs[i]? = some c → ∃ v, ws[i]? = some v ∧ DR h c v
 | x :: r, ws, 0, c, hx, hc => by
  rw [DRs] at hx; obtain ⟨v, vs, rfl, h2, h3⟩ := hx
  cases hc; exact ⟨v, rfl, h2⟩
 | x :: r, ws, i + 1, c, hx, hc => by
  rw [DRs] at hx; obtain ⟨v, vs, rfl, h2, h3⟩ := hx
  exact DRs.at (cs := r) (ws := vs) (i := i) h3 (by simpa using hc)
theorem DRss.len : ∀ {cs : List (List DV)} {ws : List (List Value)}, DRss h cs ws → ws.length = cs.length
 | [], ws, hx => by rw [DRss] at hx; rw [hx]; rfl
 | c :: r, ws, hx => by rw [DRss] at hx; obtain ⟨v, vs, rfl, _, h3⟩ := hx; rw [List.length_cons, List.length_cons, DRss.len h3]
theorem DRss.at : ∀ {cs : List (List DV)} {ws : List (List Value)} {i : Nat} {c : List DV}, DRss h cs ws → cs[i]? = some c → ∃ v, ws[i]? = some v ∧ DRs h c v
 | x :: r, ws, 0, c, hx, hc => by
  rw [DRss] at hx; obtain ⟨v, vs, rfl, h2, h3⟩ := hx
  cases hc; exact ⟨v, rfl, h2⟩
 | x :: r, ws, i + 1, c, hx, hc => by
  rw [DRss] at hx; obtain ⟨v, vs, rfl, h2, h3⟩ := hx
  exact DRss.at (cs := r) (ws := vs) (i := i) h3 (by simpa using hc)
theorem DRss.app : ∀ {cs ds : List (List DV)} {ws xs : List (List Value)}, DRss h cs ws → DRss h ds xs → DRss h (cs ++ ds) (ws ++ xs)
 | [], ds, ws, xs, hx, hy => by rw [DRss] at hx; rw [hx]; exact hy
 | c :: r, ds, ws, xs, hx, hy => by
  rw [DRss] at hx; obtain ⟨v, vs, rfl, h2, h3⟩ := hx
  rw [List.cons_append, List.cons_append, DRss]; exact ⟨v, _, rfl, h2, DRss.app h3 hy⟩
theorem DRss.drop : ∀ {cs : List (List DV)} {ws : List (List Value)} (n : Nat), DRss h cs ws → DRss h (cs.drop n) (ws.drop n)
 | cs, ws, 0, hx => hx
 | [], ws, n + 1, hx => by rw [DRss] at hx; rw [hx]; simp [DRss]
 | c :: r, ws, n + 1, hx => by
  rw [DRss] at hx; obtain ⟨v, vs, rfl, h2, h3⟩ := hx
  exact DRss.drop n h3
theorem DRss.take : ∀ {cs : List (List DV)} {ws : List (List Value)} (n : Nat), DRss h cs ws → DRss h (cs.take n) (ws.take n)
 | cs, ws, 0, hx => by simp [DRss]
 | [], ws, n + 1, hx => by rw [DRss] at hx; rw [hx]; simp [DRss]
 | c :: r, ws, n + 1, hx => by
  rw [DRss] at hx; obtain ⟨v, vs, rfl, h2, h3⟩ := hx
  rw [List.take_succ_cons, List.take_succ_cons, DRss]
  exact ⟨v, _, rfl, h2, DRss.take n h3⟩
end
structure Nm where
 A : Nat → Option Nat
 V : Nat → Nat → Option Value
structure Nm.le (N N' : Nm) : Prop where
 a : ∀ b g, N.A b = some g → N'.A b = some g
 v : ∀ r k u, N.V r k = some u → N'.V r k = some u
theorem Nm.le.refl (N : Nm) : N.le N := ⟨fun _ _ h => h, fun _ _ _ h => h⟩
theorem Nm.le.trans {a b c : Nm} (h : a.le b) (k : b.le c) : a.le c := ⟨fun x y e => k.a x y (h.a x y e), fun x y z e => k.v x y z (h.v x y z e)⟩
structure Nm.up (dm : Nat → Prop) (N N' : Nm) : Prop where
 le : N.le N'
 a : ∀ b, dm b → N'.A b = N.A b
 v : ∀ b r, dm b → N'.V r b = N.V r b
theorem Nm.up.refl (dm : Nat → Prop) (N : Nm) : Nm.up dm N N := ⟨Nm.le.refl N, fun _ _ => rfl, fun _ _ _ => rfl⟩
theorem Nm.up.trans {dm dm' : Nat → Prop} {a b c : Nm} (h : Nm.up dm a b) (k : Nm.up dm' b c) (hd : ∀ b, dm b → dm' b) : Nm.up dm a c :=
 ⟨h.le.trans k.le, fun x hx => (k.a x (hd x hx)).trans (h.a x hx), fun x r hx => (k.v x r (hd x hx)).trans (h.v x r hx)⟩
inductive PV where
 | d (x : Unit → DV)
 | ptr (b o : Nat)
 | own (r k : Nat)
 | ept (cs : Unit → List DV) (o : Nat)
 | rpt (r k n : Nat) (i : Unit → Nat) (o : Nat)
 | agg (cs : List PV)
 | tup (cs : List PV)
 | fn (f : Fn) (xs ys : List PV)
 | ifp (t : TypeId) (x : PV)
 | b (v : Bool)
 | dead
mutual
def PVR (N : Nm) (h : Frag) : PV → Value → Prop
 | .d x, v => DR h (x ()) v
 | .ptr b o, v => ∃ g, N.A b = some g ∧ v = .pointer (some ⟨g, o, none⟩)
 | .own r k, v => N.V r k = some v ∧ v.oneCell' = true
 | .ept cs o, v => ∃ g off cur t fr ws, v = .pointer (some ⟨g, off + o, none⟩) ∧ h g = some (.cells cur t fr) ∧ (∀ (i : Nat) u, ws[i]? = some u → cur[off + i]? = some u) ∧ DRs h (cs ()) ws
 | .rpt r k n i o, v => ∃ g len cap, N.V r k = some (.slice (some ⟨g, 0, none⟩) len cap) ∧ v = .pointer (some ⟨g, i () * n + o, none⟩)
 | .agg cs, v => ∃ ws, v = .agg ws.toArray ∧ PVRs N h cs ws ∧ ∀ u ∈ ws, u.oneCell' = true
 | .tup cs, v => ∃ ws, v = .tuple ws.toArray ∧ PVRs N h cs ws
 | .fn f xs ys, v => ∃ vs ws, v = .func f vs.toArray ws.toArray ∧ PVRs N h xs vs ∧ PVRs N h ys ws
 | .ifp t x, v => ∃ u, v = .iface t u ∧ PVR N h x u
 | .b u, v => v = .bool u
 | .dead, _ => True
def PVRs (N : Nm) (h : Frag) : List PV → List Value → Prop
 | [], ws => ws = []
 | c :: r, ws => ∃ v vs, ws = v :: vs ∧ PVR N h c v ∧ PVRs N h r vs
end
mutual
theorem PVR.mono {N N' : Nm} {h h' : Frag} (hN : N.le N') (hl : FLe h h') : ∀ (p : PV) (v : Value), PVR N h p v → PVR N' h' p v
 | .d x, v, hx => by rw [PVR] at hx ⊢; exact DR.mono hl _ _ hx
 | .ptr b o, v, hx => by rw [PVR] at hx ⊢; obtain ⟨g, h1, h2⟩ := hx; exact ⟨g, hN.a _ _ h1, h2⟩
 | .own r k, v, hx => by rw [PVR] at hx ⊢; exact ⟨hN.v _ _ _ hx.1, hx.2⟩
 | .ept cs o, v, hx => by
  rw [PVR] at hx ⊢
  obtain ⟨g, off, cur, t, fr, ws, h1, h2, h3, h4⟩ := hx
  exact ⟨g, off, cur, t, fr, ws, h1, hl _ _ h2, h3, DRs.mono hl _ _ h4⟩
 | .rpt r k n i o, v, hx => by rw [PVR] at hx ⊢; obtain ⟨g, l, c, h1, h2⟩ := hx; exact ⟨g, l, c, hN.v _ _ _ h1, h2⟩
 | .agg cs, v, hx => by rw [PVR] at hx ⊢; obtain ⟨ws, h1, h2, h3⟩ := hx; exact ⟨ws, h1, PVRs.mono hN hl cs ws h2, h3⟩
 | .tup cs, v, hx => by rw [PVR] at hx ⊢; obtain ⟨ws, h1, h2⟩ := hx; exact ⟨ws, h1, PVRs.mono hN hl cs ws h2⟩
 | .fn f xs ys, v, hx => by rw [PVR] at hx ⊢; obtain ⟨vs, ws, h1, h2, h3⟩ := hx; exact ⟨vs, ws, h1, PVRs.mono hN hl xs vs h2, PVRs.mono hN hl ys ws h3⟩
 | .ifp t x, v, hx => by rw [PVR] at hx ⊢; obtain ⟨u, h1, h2⟩ := hx; exact ⟨u, h1, PVR.mono hN hl x u h2⟩
 | .b u, v, hx => by rw [PVR] at hx ⊢; exact hx
 | .dead, v, hx => by rw [PVR]; trivial
theorem PVRs.mono {N N' : Nm} {h h' : Frag} (hN : N.le N') (hl : FLe h h') : ∀ (p : List PV) (v : List Value), PVRs N h p v → PVRs N' h' p v
 | [], v, hx => by rw [PVRs] at hx ⊢; exact hx
 | c :: r, v, hx => by
  rw [PVRs] at hx ⊢
  obtain ⟨u, us, h1, h2, h3⟩ := hx
  exact ⟨u, us, h1, PVR.mono hN hl c u h2, PVRs.mono hN hl r us h3⟩
end
section
variable {N : Nm} {h : Frag}
theorem PVRs.len : ∀ {cs : List PV} {ws : List Value}, PVRs N h cs ws → ws.length = cs.length
 | [], ws, hx => by rw [PVRs] at hx; rw [hx]; rfl
 | c :: r, ws, hx => by rw [PVRs] at hx; obtain ⟨v, vs, rfl, _, h3⟩ := hx; rw [List.length_cons, List.length_cons, PVRs.len h3]
theorem PVRs.at : ∀ {cs : List PV} {ws : List Value} {i : Nat} {c : PV}, PVRs N h cs ws → cs[i]? = some c → ∃ v, ws[i]? = some v ∧ PVR N h c v
 | x :: r, ws, 0, c, hx, hc => by
  rw [PVRs] at hx; obtain ⟨v, vs, rfl, h2, h3⟩ := hx
  cases hc; exact ⟨v, rfl, h2⟩
 | x :: r, ws, i + 1, c, hx, hc => by
  rw [PVRs] at hx; obtain ⟨v, vs, rfl, h2, h3⟩ := hx
  exact PVRs.at (cs := r) (ws := vs) (i := i) h3 (by simpa using hc)
theorem PVRs.app : ∀ {cs ds : List PV} {ws xs : List Value}, PVRs N h cs ws → PVRs N h ds xs → PVRs N h (cs ++ ds) (ws ++ xs)
 | [], ds, ws, xs, hx, hy => by rw [PVRs] at hx; rw [hx]; exact hy
 | c :: r, ds, ws, xs, hx, hy => by
  rw [PVRs] at hx; obtain ⟨v, vs, rfl, h2, h3⟩ := hx
  rw [List.cons_append, List.cons_append, PVRs]; exact ⟨v, _, rfl, h2, PVRs.app h3 hy⟩
theorem PVRs.drop : ∀ {cs : List PV} {ws : List Value} (n : Nat), PVRs N h cs ws → PVRs N h (cs.drop n) (ws.drop n)
 | cs, ws, 0, hx => hx
 | [], ws, n + 1, hx => by rw [PVRs] at hx; rw [hx]; simp [PVRs]
 | c :: r, ws, n + 1, hx => by
  rw [PVRs] at hx; obtain ⟨v, vs, rfl, h2, h3⟩ := hx
  exact PVRs.drop n h3
theorem PVRs.take : ∀ {cs : List PV} {ws : List Value} (n : Nat), PVRs N h cs ws → PVRs N h (cs.take n) (ws.take n)
 | cs, ws, 0, hx => by simp [PVRs]
 | [], ws, n + 1, hx => by rw [PVRs] at hx; rw [hx]; simp [PVRs]
 | c :: r, ws, n + 1, hx => by
  rw [PVRs] at hx; obtain ⟨v, vs, rfl, h2, h3⟩ := hx
  rw [List.take_succ_cons, List.take_succ_cons, PVRs]
  exact ⟨v, _, rfl, h2, PVRs.take n h3⟩
theorem PVRs.of_ds : ∀ {cs : List DV} {ws : List Value}, DRs h cs ws → PVRs N h (cs.map (fun c => .d fun _ => c)) ws
 | [], ws, hx => by rw [DRs] at hx; rw [hx]; simp [PVRs]
 | c :: r, ws, hx => by
  rw [DRs] at hx; obtain ⟨v, vs, rfl, h2, h3⟩ := hx
  rw [List.map_cons, PVRs]; exact ⟨v, vs, rfl, by rw [PVR]; exact h2, PVRs.of_ds h3⟩
theorem PVRs.to_ds : ∀ {cs : List (Unit → DV)} {ws : List Value}, PVRs N h (cs.map .d) ws → DRs h (cs.map (· ())) ws
 | [], ws, hx => by rw [List.map_nil, PVRs] at hx; rw [hx]; simp [DRs]
 | c :: r, ws, hx => by
  rw [List.map_cons, PVRs] at hx; obtain ⟨v, vs, rfl, h2, h3⟩ := hx
  rw [List.map_cons, DRs]; rw [PVR] at h2; exact ⟨v, vs, rfl, h2, PVRs.to_ds h3⟩
end
inductive Ob where
 | blk (cs : List PV)
 | row (k : Nat) (t : TypeId) (n : Nat) (es : Unit → List (List DV))
def adr (N : Nm) (b : Nat) : Ob → Option Nat
 | .blk _ => N.A b
 | .row k _ _ _ => (N.V b k).bind Value.ownBlock
def ObR (N : Nm) (h : Frag) (w : World) (b : Nat) : Ob → Prop
 | .blk cs => ∃ g ws, N.A b = some g ∧ Blk w g ws ∧ PVRs N h cs ws ∧ ∀ u ∈ ws, u.oneCell' = true
 | .row k t n es => ∃ v ess, N.V b k = some v ∧ w.ownsRow 0 t n v (es ()).length ess.flatten ∧ DRss h (es ()) ess ∧ ∀ e ∈ ess, e.length = n
structure Ext (X : Nat → Prop) (w w' : World) : Prop where
 os : w'.os = w.os
 tape : w'.tape = w.tape
 output : w'.output = w.output
 size : w.heap.size ≤ w'.heap.size
 block : ∀ k, k < w.heap.size → ¬ X k → w'.heap[k]? = w.heap[k]?
theorem Ext.refl (X : Nat → Prop) (w : World) : Ext X w w := ⟨rfl, rfl, rfl, Nat.le_refl _, fun _ _ _ => rfl⟩
theorem Ext.of_grown {w w' : World} {r : Option Nat} {X : Nat → Prop} (h : w.grownBy w' r) (hX : ∀ k, r = some k → X k) : Ext X w w' :=
 ⟨h.os, h.tape, h.output, h.size, fun k hk hn => h.block k hk (fun e => hn (hX k e.symm))⟩
theorem Ext.below {w w' : World} (h : Ext (fun _ => False) w w') : Below w.heap.size w w' := ⟨h.os, h.tape, h.output, h.size, fun k hk => h.block k hk id⟩
theorem Ext.of_below {w w' : World} (h : Below w.heap.size w w') (X : Nat → Prop) : Ext X w w' := ⟨h.os, h.tape, h.output, h.size, fun k hk _ => h.block k hk⟩
open Classical in
noncomputable def fragX (w : World) (X : Nat → Prop) : Frag := fun k => if X k then none else w.heap[k]?
theorem fragX_some {w : World} {X : Nat → Prop} {k : Nat} {o : Obj} (h : fragX w X k = some o) : ¬ X k ∧ w.heap[k]? = some o := by
 unfold fragX at h
 split at h
 ·cases h
 ·exact ⟨by assumption, h⟩
theorem fragX_of {w : World} {X : Nat → Prop} {k : Nat} {o : Obj} (hX : ¬ X k) (h : w.heap[k]? = some o) : fragX w X k = some o := by
 unfold fragX; rw [if_neg hX]; exact h
theorem fragX_frag (w : World) (X : Nat → Prop) : FLe (fragX w X) (frag w) := fun k o h => (fragX_some h).2
def held (F : Nat → Prop) (N : Nm) (M : Nat → Option Ob) : Nat → Prop := fun g => F g ∨ ∃ b ob, M b = some ob ∧ adr N b ob = some g
noncomputable abbrev rd (F : Nat → Prop) (N : Nm) (M : Nat → Option Ob) (w : World) : Frag := fragX w (held F N M)
def GlR (h : Frag) (g : Nat) (cs : List DV) : Prop := ∃ cur t fr ws, h g = some (.cells cur t fr) ∧ (∀ (i : Nat) u, ws[i]? = some u → cur[i]? = some u) ∧ DRs h cs ws ∧ (cs = [] → fr = (0, 0))
theorem GlR.mono {h h' : Frag} (hl : FLe h h') {g : Nat} {cs : List DV} : GlR h g cs → GlR h' g cs := fun ⟨cur, t, fr, ws, h1, h2, h3, h4⟩ => ⟨cur, t, fr, ws, hl _ _ h1, h2, DRs.mono hl cs ws h3, h4⟩
structure Mem (G : List (Nat × List DV)) (F Xp dm : Nat → Prop) (w0 : World) (N : Nm) (M : Nat → Option Ob) (w : World) : Prop where
 ext : Ext Xp w0 w
 flt : ∀ g, F g → g < w0.heap.size
 obj : ∀ b ob, M b = some ob → ObR N (rd F N M w) w b ob
 apart : ∀ b b' ob ob' g, M b = some ob → M b' = some ob' → adr N b ob = some g → adr N b' ob' = some g → b = b'
 at_ : ∀ b ob g, M b = some ob → adr N b ob = some g → ¬ F g ∧ (w0.heap.size ≤ g ∨ Xp g)
 dom : ∀ b, ¬ dm b → N.A b = none ∧ ∀ r, N.V r b = none ∧ N.V b r = none
 glob : ∀ g cs, (g, cs) ∈ G → GlR (rd F N M w) g cs
theorem ObR.lt {N : Nm} {h : Frag} {w : World} {b g : Nat} {ob : Ob} (ho : ObR N h w b ob) (ha : adr N b ob = some g) : g < w.heap.size := by
 cases ob with
 | blk cs =>
  obtain ⟨g', ws, h1, h2, _⟩ := ho
  rw [adr, h1] at ha; cases ha; exact h2.lt
 | row k t n es =>
  obtain ⟨v, ess, h1, h2, _⟩ := ho
  rw [adr, h1] at ha
  exact (h2.lt g ha).2
theorem ObR.adr_le {N N' : Nm} {h : Frag} {w : World} {b : Nat} {ob : Ob} (ho : ObR N h w b ob) (hN : N.le N') : adr N' b ob = adr N b ob := by
 cases ob with
 | blk cs => obtain ⟨g', ws, h1, _⟩ := ho; rw [adr, adr, h1, hN.a _ _ h1]
 | row k t n es => obtain ⟨v, ess, h1, _⟩ := ho; rw [adr, adr, h1, hN.v _ _ _ h1]
theorem ObR.keep {N N' : Nm} {h h' : Frag} {w w' : World} {b : Nat} {ob : Ob} (ho : ObR N h w b ob) (hN : N.le N') (hl : FLe h h') (hk : ∀ g, adr N b ob = some g → w'.heap[g]? = w.heap[g]?) : ObR N' h' w' b ob := by
 cases ob with
 | blk cs =>
  obtain ⟨g, ws, h1, h2, h3, h4⟩ := ho
  obtain ⟨t, h2⟩ := h2
  exact ⟨g, ws, hN.a _ _ h1, ⟨t, (hk g h1).trans h2⟩, PVRs.mono hN hl _ _ h3, h4⟩
 | row k t n es =>
  obtain ⟨v, ess, h1, h2, h3, h4⟩ := ho
  refine ⟨v, ess, hN.v _ _ _ h1, ?_, DRss.mono hl _ _ h3, h4⟩
  obtain ⟨q1, q2⟩ := h2
  refine ⟨q1, ?_⟩
  rcases q2 with q2 | ⟨g, cap, cur, e, q3, q4, q5⟩
  ·exact .inl q2
  ·refine .inr ⟨g, cap, cur, e, q3, (hk g ?_).trans q4, q5⟩
   rw [adr, h1, e]; rfl
theorem Mem.step {G : List (Nat × List DV)} {F Xp dm dm' W : Nat → Prop} {w0 w w' : World} {N N' : Nm} {M M' : Nat → Option Ob} (H : Mem G F Xp dm w0 N M w)
  (hE : Ext (fun g => ∃ b ob, W b ∧ M b = some ob ∧ adr N b ob = some g) w w') (hN : N.le N') (hoff : ∀ b, ¬ W b → M' b = M b)
  (hadr : ∀ b ob g, W b → M' b = some ob → adr N' b ob = some g → w.heap.size ≤ g ∨ ∃ b0 ob0, W b0 ∧ M b0 = some ob0 ∧ adr N b0 ob0 = some g)
  (hap : ∀ b b' ob ob' g, W b → W b' → M' b = some ob → M' b' = some ob' → adr N' b ob = some g → adr N' b' ob' = some g → b = b')
  (hobj : FLe (rd F N M w) (rd F N' M' w') → ∀ b ob, W b → M' b = some ob → ObR N' (rd F N' M' w') w' b ob)
  (hdom : ∀ b, ¬ dm' b → N'.A b = none ∧ ∀ r, N'.V r b = none ∧ N'.V b r = none) :
  Mem G F Xp dm' w0 N' M' w' ∧ FLe (rd F N M w) (rd F N' M' w') := by
 have hsz : ∀ b ob g, M b = some ob → adr N b ob = some g → g < w.heap.size := fun b ob g hb ha => (H.obj b ob hb).lt ha
 have hcase : ∀ b ob g, M' b = some ob → adr N' b ob = some g → (W b ∧ (w.heap.size ≤ g ∨ ∃ b0 ob0, W b0 ∧ M b0 = some ob0 ∧ adr N b0 ob0 = some g)) ∨ (¬ W b ∧ M b = some ob ∧ adr N b ob = some g) := fun b ob g hb ha => by
  by_cases hW : W b
  ·exact .inl ⟨hW, hadr b ob g hW hb ha⟩
  ·right
   have hb0 := hoff b hW ▸ hb
   exact ⟨hW, hb0, ((H.obj b ob hb0).adr_le hN) ▸ ha⟩
 have hF : ∀ g, F g → g < w.heap.size := fun g hg => Nat.lt_of_lt_of_le (H.flt g hg) H.ext.size
 have hl : FLe (rd F N M w) (rd F N' M' w') := fun k o hk => by
  obtain ⟨h1, h2⟩ := fragX_some hk
  have hlt := heap_lt h2
  refine fragX_of (fun hX => ?_) ((hE.block k hlt (fun ⟨b, ob, _, h3, h4⟩ => h1 (.inr ⟨b, ob, h3, h4⟩))).trans h2)
  rcases hX with hX | ⟨b, ob, hb, ha⟩
  ·exact h1 (.inl hX)
  ·rcases hcase b ob k hb ha with ⟨_, h3 | ⟨b0, ob0, _, h3, h4⟩⟩ | ⟨_, h3, h4⟩
   ·omega
   ·exact h1 (.inr ⟨b0, ob0, h3, h4⟩)
   ·exact h1 (.inr ⟨b, ob, h3, h4⟩)
 refine ⟨⟨⟨hE.os.trans H.ext.os, hE.tape.trans H.ext.tape, hE.output.trans H.ext.output, Nat.le_trans H.ext.size hE.size, fun k hk hX => ?_⟩, H.flt, fun b ob hb => ?_, fun b b' ob ob' g hb hb' ha ha' => ?_, fun b ob g hb ha => ?_, hdom, fun g cs hg => (H.glob g cs hg).mono hl⟩, hl⟩
 ·refine (hE.block k (Nat.lt_of_lt_of_le hk H.ext.size) (fun ⟨b, ob, _, h3, h4⟩ => ?_)).trans (H.ext.block k hk hX)
  rcases (H.at_ b ob k h3 h4).2 with h5 | h5
  ·omega
  ·exact hX h5
 ·by_cases hW : W b
  ·exact hobj hl b ob hW hb
  ·have hb0 := hoff b hW ▸ hb
   refine (H.obj b ob hb0).keep hN hl (fun g ha => hE.block g (hsz b ob g hb0 ha) (fun ⟨b1, ob1, hW1, h3, h4⟩ => ?_))
   exact hW (H.apart b b1 ob ob1 g hb0 h3 ha h4 ▸ hW1)
 ·rcases hcase b ob g hb ha with ⟨hW, h1⟩ | ⟨hW, h1, h2⟩
  ·rcases hcase b' ob' g hb' ha' with ⟨hW', h3⟩ | ⟨hW', h3, h4⟩
   ·exact hap b b' ob ob' g hW hW' hb hb' ha ha'
   ·exfalso
    rcases h1 with h1 | ⟨b0, ob0, q1, q2, q3⟩
    ·have := hsz b' ob' g h3 h4; omega
    ·exact hW' (H.apart b0 b' ob0 ob' g q2 h3 q3 h4 ▸ q1)
  ·rcases hcase b' ob' g hb' ha' with ⟨hW', h3⟩ | ⟨hW', h3, h4⟩
   ·exfalso
    rcases h3 with h3 | ⟨b0, ob0, q1, q2, q3⟩
    ·have := hsz b ob g h1 h2; omega
    ·exact hW (H.apart b0 b ob0 ob g q2 h1 q3 h2 ▸ q1)
   ·exact H.apart b b' ob ob' g h1 h3 h2 h4
 ·rcases hcase b ob g hb ha with ⟨hW, h1 | ⟨b0, ob0, q1, q2, q3⟩⟩ | ⟨hW, h1, h2⟩
  ·exact ⟨fun hg => by have := hF g hg; omega, .inl (Nat.le_trans H.ext.size h1)⟩
  ·exact H.at_ b0 ob0 g q2 q3
  ·exact H.at_ b ob g h1 h2
end Go.Proofs.YtlmbcoecipbblaaGreatDoor
namespace Go.Proofs.YtlmbcoecipbblaaGreatDoor
open Go.RowKit
inductive ZK where
 | int (k : IntKind)
 | bool
 | str
 | sl
 | ptr
 | ifc
 | fn
 | map
def ZK.v : ZK → Value
 | .int k => .int k 0
 | .bool => .bool false
 | .str => .string ⟨#[]⟩
 | .sl => .slice none 0 0
 | .ptr => .pointer none
 | .ifc => .nilIface
 | .fn => .nilFunc
 | .map => .map none
inductive TK where
 | sc
 | str
 | bool
 | ifc
 | st (fs : List (Nat × Nat))
 | sl (e : Nat)
structure TI where
 size : Nat
 bytes : Nat
 k : TK
 z : List ZK
abbrev Tb := Nat → Option TI
def lk {α : Type} : List (Nat × α) → Nat → Option α
 | [], _ => none
 | (j, x) :: r, i => if j = i then some x else lk r i
structure St where
 t : List (Nat × PV)
 m : List (Nat × Ob)
 nx : Nat
 n0 : Nat
def St.T (s : St) (i : Nat) : PV := (lk s.t i).getD .dead
def PRun (P : Program) (G : List (Nat × List DV)) (f : FuncId) (args : List PV) (H : List (Nat × Ob)) (fr : List Nat) (r : PV) (H' : List (Nat × Ob)) : Prop :=
 (∃ fn, P.funcs[f]? = some fn ∧ fn.body.isSome = true ∧ (fn.name == "runtime.NumGoroutine") = false) ∧
 ∀ (F Xp dm : Nat → Prop) (N : Nm) (w : World) (vs : List Value), (∀ b ∈ fr, ¬ dm b) → Mem G F Xp dm w N (lk H) w → PVRs N (rd F N (lk H) w) args vs →
  Calls P f vs.toArray w (fun e w' => ∃ v N', e = .returned v ∧ Nm.up dm N N' ∧ Mem G F Xp (fun b => dm b ∨ b ∈ fr) w N' (lk H') w' ∧ PVR N' (rd F N' (lk H') w') r v)
inductive Tr (α : Type) where
 | ret (x : α)
 | fail (why : Nat)
 | ask (p : Unit → Prop) (k : Tr α)
 | br (c : Unit → Bool) (t e : Unit → Tr α)
 | get (es : Unit → List (List DV)) (i : Unit → Int) (k : (Unit → List DV) → Tr α)
 | run (s : Unit → Sem Value) (k : (Unit → DV) → Tr α)
 | call (f : FuncId) (args : List PV) (H : List (Nat × Ob)) (fr : List Nat) (k : PV → List (Nat × Ob) → Tr α)
 | loop (c : Code) (s : St) (k : Exit → St → Tr α)
 | obj (b : Nat) (k : Ob → Tr α)
def Tr.bind {α β : Type} : Tr α → (α → Tr β) → Tr β
 | .ret x, f => f x
 | .fail n, _ => .fail n
 | .ask p k, f => .ask p (k.bind f)
 | .br c t e, f => .br c (fun u => (t u).bind f) (fun u => (e u).bind f)
 | .get es i k, f => .get es i (fun e => (k e).bind f)
 | .run s k, f => .run s (fun e => (k e).bind f)
 | .call g xs0 H fr k, f => .call g xs0 H fr (fun r H' => (k r H').bind f)
 | .loop c s k, f => .loop c s (fun e s' => (k e s').bind f)
 | .obj b k, f => .obj b (fun o => (k o).bind f)
def Tr.at {α : Type} (m : List (Nat × Ob)) (l : List Nat) : Tr α → Tr (α × List Nat)
 | .ret x => .ret (x, l)
 | .fail n => .fail n
 | .ask p k => .ask p (k.at m l)
 | .br c t e => .br c (fun u => (t u).at m l) (fun u => (e u).at m l)
 | .get es i k => .get es i (fun e => (k e).at m l)
 | .run s k => .run s (fun e => (k e).at m l)
 | .call g xs0 H fr k => .call g xs0 H fr (fun r H' => (k r H').at m l)
 | .loop c s k => .fail 78
 | .obj b k => match lk m b with
  | some o => (k o).at m (b :: l)
  | none => .fail 1
structure Eff where
 v : PV
 m : List (Nat × Option Ob)
def DV.es : DV → List (List DV)
 | .sl es => es
 | _ => []
def DV.ps : DV → List DV
 | .pt cs => cs
 | _ => []
def DV.vl : DV → Value
 | .lit v => v
 | _ => .nilFunc
def boolOf : DV → Bool
 | .lit (.bool b) => b
 | _ => false
def intD : DV → Int
 | .lit (.int _ n) => n
 | _ => 0
def IsB (x : DV) : Prop := ∃ b, x = .lit (.bool b)
def IsI (x : DV) : Prop := ∃ k n, x = .lit (.int k n)
def IsS (x : DV) : Prop := ∃ es, x = .sl es
def IsP (x : DV) : Prop := ∃ cs, x = .pt cs
def IsL (x : DV) : Prop := ∃ v, x = .lit v
def lenD : DV → Int
 | .sl es => es.length
 | .lit (.string s) => s.size
 | .lit (.slice _ n _) => n
 | _ => 0
def bopV (tk : TK) (op : BinOp) : Value → Value → Option Value
 | .int k a, .int k' b => if k = k' then match op with
   | .add => some (.int k (k.wrap (a + b)))
   | .sub => some (.int k (k.wrap (a - b)))
   | .mul => some (.int k (k.wrap (a * b)))
   | .eql => some (.bool (decide (a = b)))
   | .neq => some (.bool (decide (¬ a = b)))
   | .lss => some (.bool (decide (a < b)))
   | .leq => some (.bool (decide (a ≤ b)))
   | .gtr => some (.bool (decide (b < a)))
   | .geq => some (.bool (decide (b ≤ a)))
   | _ => none
  else none
 | .string a, .string b => match op with
   | .eql => some (.bool (decide (a = b)))
   | .neq => some (.bool (decide (¬ a = b)))
   | .lss => some (.bool (Op.bytesLess a.toList b.toList))
   | .leq => some (.bool (Op.bytesLess a.toList b.toList || a.toList == b.toList))
   | .gtr => some (.bool !(Op.bytesLess a.toList b.toList || a.toList == b.toList))
   | .geq => some (.bool !Op.bytesLess a.toList b.toList)
   | .add => if a.size + b.size ≤ 9223372036854775807 then some (.string (a ++ b)) else none
   | _ => none
 | .bool a, .bool b => match op, tk with
   | .eql, .bool => some (.bool (a == b))
   | .neq, .bool => some (.bool (!(a == b)))
   | _, _ => none
 | .iface _ _, .nilIface => match op, tk with
   | .eql, .ifc => some (.bool false)
   | .neq, .ifc => some (.bool true)
   | _, _ => none
 | .nilIface, .nilIface => match op, tk with
   | .eql, .ifc => some (.bool true)
   | .neq, .ifc => some (.bool false)
   | _, _ => none
 | _, _ => none
def bopD (tk : TK) (op : BinOp) : DV → DV → Option DV
 | .lit a, .lit b => (bopV tk op a b).map .lit
 | .ifc _ _, .lit .nilIface => match op, tk with
   | .eql, .ifc => some (.lit (.bool false))
   | .neq, .ifc => some (.lit (.bool true))
   | _, _ => none
 | _, _ => none
def getD' : Option DV → DV
 | some x => x
 | none => .lit .nilFunc
def BopOk (tk : TK) (op : BinOp) (x y : DV) : Prop := ∃ z, bopD tk op x y = some z
def cellsOf : PV → Option (List PV)
 | .agg cs => some cs
 | .tup _ => none
 | .dead => none
 | x => some [x]
def cellAt (l : List DV) (i : Nat) : DV := l.getD i (.lit .nilFunc)
def asD : PV → Option (Unit → DV)
 | .d x => some x
 | _ => none
def allD : List PV → Option (List (Unit → DV))
 | [] => some []
 | p :: r => match asD p, allD r with
  | some x, some l => some (x :: l)
  | _, _ => none
def zcell (z : ZK) : PV := .d fun _ => .lit z.v
def partOf (T : TI) (sub : List PV) : Tr PV :=
 if sub.length = T.size then match T.k with
  | .st _ => .ret (.agg sub)
  | _ => match sub with
   | [x] => .ret x
   | _ => .fail 2
 else .fail 3
def cellsAt (cs : Unit → List DV) (o : Nat) : Nat → List PV
 | 0 => []
 | n + 1 => .d (fun _ => cellAt (cs ()) o) :: cellsAt cs (o + 1) n
def partE (T : TI) (cs : Unit → List DV) (o : Nat) : Tr PV := .ask (fun _ => o + T.size ≤ (cs ()).length) (partOf T (cellsAt cs o T.size))
def val (x : PV) : Eff := ⟨x, []⟩
def patchP (cs : List PV) (o : Nat) (vs : List PV) : List PV := cs.take o ++ (vs ++ cs.drop (o + vs.length))
def ofOpt {α β : Type} (n : Nat) (x : Option α) (f : α → Tr β) : Tr β := match x with
 | some y => f y
 | none => .fail n
def pPick (c : Unit → DV) : PV → PV → Tr Eff
 | .d x, .d y => .ret (val (.d fun _ => if boolOf (c ()) then x () else y ()))
 | .tup [], y => .ask (fun _ => boolOf (c ()) = false) (.ret (val y))
 | x, .tup [] => .ask (fun _ => boolOf (c ()) = true) (.ret (val x))
 | x, y => .br (fun _ => boolOf (c ())) (fun _ => .ret (val x)) (fun _ => .ret (val y))
def pLoad (T : TI) : List PV → Tr Eff
 | [.ptr b o] => .obj b fun
  | .blk cs => (partOf T ((cs.drop o).take T.size)).bind fun x => .ret (val x)
  | _ => .fail 4
 | [.ept cs o] => (partE T cs o).bind fun x => .ret (val x)
 | [.rpt r k n ix o] => .obj r fun
  | .row k' _ n' es => if k = k' ∧ n = n' then .get es (fun _ => (ix () : Int)) fun e => (partE T e o).bind fun x => .ret (val x) else .fail 5
  | _ => .fail 6
 | _ => .fail 7
def patchD (cs : List DV) (o : Nat) (vs : List DV) : List DV := cs.take o ++ (vs ++ cs.drop (o + vs.length))
def pStore (T : TI) : List PV → Tr Eff
 | [.ptr b o, x] => .obj b fun
  | .blk cs => ofOpt 8 (cellsOf x) fun vs => if vs.length = T.size ∧ o + vs.length ≤ cs.length then .ret ⟨.tup [], [(b, some (.blk (patchP cs o vs)))]⟩ else .fail 9
  | _ => .fail 10
 | [.rpt r k n ix o, x] => .obj r fun
  | .row k' t n' es => if k = k' ∧ n = n' then ofOpt 8 (cellsOf x) fun vs => ofOpt 124 (allD vs) fun l => if vs.length = T.size ∧ o + vs.length ≤ n then .get es (fun _ => (ix () : Int)) fun e => .ret ⟨.tup [], [(r, some (.row k' t n' fun _ => (es ()).set (ix ()) (patchD (e ()) o (l.map fun x => x ()))))]⟩ else .fail 9 else .fail 125
  | _ => .fail 126
 | _ => .fail 11
def pNil : List PV → Tr Eff
 | [.ptr b o] => .ret (val (.ptr b o))
 | [.ept cs o] => .ret (val (.ept cs o))
 | [.rpt r k n i o] => .ret (val (.rpt r k n i o))
 | [.fn (.func f) xs ys] => .ret (val (.fn (.func f) xs ys))
 | [.d x] => .ask (fun _ => IsP (x ())) (.ret (val (.ept (fun _ => (x ()).ps) 0)))
 | _ => .fail 12
def pFieldAddr (off : Nat) : List PV → Tr Eff
 | [.ptr b o] => .ret (val (.ptr b (o + off)))
 | [.ept cs o] => .ret (val (.ept cs (o + off)))
 | [.rpt r k n i o] => .ret (val (.rpt r k n i (o + off)))
 | _ => .fail 13
def pField (off : Nat) (T : TI) : List PV → Tr Eff
 | [.agg cs] => (partOf T ((cs.drop off).take T.size)).bind fun x => .ret (val x)
 | _ => .fail 14
def pIndexAddr (E : TI) : List PV → Tr Eff
 | [.d x, .d j] => .ask (fun _ => IsS (x ())) (.ask (fun _ => IsI (j ())) (.get (fun _ => (x ()).es) (fun _ => intD (j ())) fun e => .ask (fun _ => (e ()).length = E.size) (.ret (val (.ept e 0)))))
 | [.own r k, .d j] => .obj r fun
  | .row k' _ n es => if k = k' ∧ n = E.size then .ask (fun _ => IsI (j ())) (.ask (fun _ => 0 ≤ intD (j ()) ∧ intD (j ()) < (es ()).length) (.ret (val (.rpt r k n (fun _ => (intD (j ())).toNat) 0)))) else .fail 15
  | _ => .fail 16
 | _ => .fail 17
def pBin (tk : TK) (op : BinOp) : List PV → Tr Eff
 | [.d x, .d y] => .ask (fun _ => BopOk tk op (x ()) (y ())) (.ret (val (.d fun _ => getD' (bopD tk op (x ()) (y ())))))
 | [.ifp _ _, .d y] => .ask (fun _ => y () = .lit .nilIface) (match op, tk with
  | .eql, .ifc => .ret (val (.d fun _ => .lit (.bool false)))
  | .neq, .ifc => .ret (val (.d fun _ => .lit (.bool true)))
  | _, _ => .fail 18)
 | _ => .fail 19
def placesT (ti : Tb) : List (Nat × Nat) → Option (List (Nat × Nat))
 | [] => some []
 | (o, u) :: r => match ti u, placesT ti r with
  | some U, some l => some ((o, U.size) :: l)
  | _, _ => none
def fillP (pl : List (Nat × Nat)) : List Nat → List PV → List PV → Option (List PV)
 | [], [], cs => some cs
 | j :: r, x :: xs, cs => match pl[j]?, cellsOf x with
  | some (off, n), some vs => if vs.length = n ∧ off + vs.length ≤ cs.length then fillP pl r xs (patchP cs off vs) else none
  | _, _ => none
 | _, _, _ => none
def elemsP (n : Nat) : Nat → List Nat → List PV → Option (List (List (Unit → DV)))
 | _, [], [] => some []
 | i, j :: r, x :: xs => if i = j then match cellsOf x with
   | some vs => match allD vs with
    | some l => if l.length = n then (elemsP n (i + 1) r xs).map (l :: ·) else none
    | none => none
   | none => none
  else none
 | _, _, _ => none
def elemsV (l : List (List (Unit → DV))) : List (List DV) := l.map fun e => e.map fun x => x ()
mutual
def PV.ids : PV → List Nat
 | .ptr b _ => [b]
 | .own r _ => [r]
 | .rpt r _ _ _ _ => [r]
 | .agg cs => idsL cs
 | .tup cs => idsL cs
 | .fn _ xs ys => idsL xs ++ idsL ys
 | .ifp _ x => x.ids
 | _ => []
def idsL : List PV → List Nat
 | [] => []
 | p :: r => p.ids ++ idsL r
end
def Ob.ids : Ob → List Nat
 | .blk cs => idsL cs
 | .row .. => []
def gather : Nat → List Nat → List (Nat × Ob) → (List (Nat × Ob) → Tr Eff) → Tr Eff
 | 0, _, _, _ => .fail 20
 | _, [], H, k => k H
 | n + 1, b :: r, H, k => match lk H b with
  | some _ => gather n r H k
  | none => .obj b fun o => gather n (o.ids ++ r) ((b, o) :: H) k
def viewL : List PV → (List PV → Bool → Tr Eff) → Tr Eff
 | [], k => k [] false
 | .own r v :: l, k => .obj r fun
  | .row v' _ _ es => if v = v' then viewL l fun l' _ => k (.d (fun _ => .sl (es ())) :: l') true else .fail 21
  | _ => .fail 22
 | .agg cs :: l, k => viewC cs fun cs' f => viewL l fun l' f' => k (.agg cs' :: l') (f || f')
 | x :: l, k => viewL l fun l' f => k (x :: l') f
 where viewC : List PV → (List PV → Bool → Tr Eff) → Tr Eff
 | [], k => k [] false
 | .own r v :: l, k => .obj r fun
  | .row v' _ _ es => if v = v' then viewC l fun l' _ => k (.d (fun _ => .sl (es ())) :: l') true else .fail 21
  | _ => .fail 22
 | x :: l, k => viewC l fun l' f => k (x :: l') f
def PureP (r : PV) : Prop := ∀ N N' h h' v, PVR N h r v → PVR N' h' r v
def names (i : Nat) : List Nat := [i, i + 1, i + 2, i + 3, i + 4, i + 5, i + 6, i + 7]
def back (H H' : List (Nat × Ob)) : List (Nat × Option Ob) := (H.map (·.1) ++ H'.map (·.1)).map fun b => (b, lk H' b)
def pCall (i : Nat) (f : FuncId) (args : List PV) : Tr Eff :=
 viewL args fun xs0 fl => gather 40 (idsL xs0) [] fun H =>
  if fl then match H with
   | [] => .call f xs0 [] (names i) fun r H' => match H' with
    | [] => .ask (fun _ => PureP r) (.ret (val r))
    | _ => .fail 23
   | _ => .fail 24
  else .call f xs0 H (names i) fun r H' => if H'.all (fun x => (lk H x.1).isSome || (names i).contains x.1) then .ret ⟨r, back H H'⟩ else .fail 25
def pElems (n : Nat) : PV → ((Unit → List (List DV)) → Tr Eff) → Tr Eff
 | .own r k, f => .obj r fun
  | .row k' _ n' es => if k = k' ∧ n = n' then f es else .fail 26
  | _ => .fail 27
 | .d y, f => .ask (fun _ => IsS (y ())) (.ask (fun _ => ∀ e ∈ (y ()).es, e.length = n) (f fun _ => (y ()).es))
 | _, _ => .fail 28
def pAppend (i e : Nat) (E : TI) : List PV → Tr Eff
 | [.own r k, x] => .obj r fun
  | .row k' t n es => if k = k' ∧ t = e ∧ n = E.size then pElems n x fun es2 => .ask (fun _ => ((es ()).length + (es2 ()).length) * E.bytes ≤ 140737488355328)
    (.ret ⟨.own r i, [(r, some (.row i t n (fun _ => es () ++ es2 ())))]⟩) else .fail 29
  | _ => .fail 30
 | [.d s, x] => .ask (fun _ => s () = .lit (.slice none 0 0)) (pElems E.size x fun es2 => .ask (fun _ => (es2 ()).length * E.bytes ≤ 140737488355328)
    (.ret ⟨.own i (i + 1), [(i, some (.row (i + 1) e E.size es2))]⟩))
 | _ => .fail 31
def pLen (tk : TK) : List PV → Tr Eff
 | [.d x] => match tk with
  | .sl _ => .ask (fun _ => IsS (x ()) ∨ ∃ a n c, x () = .lit (.slice a n c)) (.ret (val (.d fun _ => .lit (.int .i64 (lenD (x ()))))))
  | .str => .ask (fun _ => ∃ s, x () = .lit (.string s)) (.ret (val (.d fun _ => .lit (.int .i64 (lenD (x ()))))))
  | _ => .fail 86
 | [.own r k] => match tk with
  | .sl _ => .obj r fun
   | .row k' _ _ es => if k = k' then .ret (val (.d fun _ => .lit (.int .i64 (es ()).length))) else .fail 32
   | _ => .fail 33
  | _ => .fail 86
 | _ => .fail 34
def IsJ (x : DV) : Prop := ∃ n, x = .lit (.int .i64 n)
def pMM (mn : Bool) : List PV → Tr Eff
 | [.d x, .d y] => .ask (fun _ => IsJ (x ())) (.ask (fun _ => IsJ (y ())) (.ret (val (.d fun _ => .lit (.int .i64 (if mn then min (intD (x ())) (intD (y ())) else max (intD (x ())) (intD (y ()))))))))
 | _ => .fail 95
def pRunL (s : List Value → Sem Value) (vals : List PV) : Tr Eff := ofOpt 35 (allD vals) fun l =>
 .ask (fun _ => ∀ x ∈ l, IsL (x ())) (.run (fun _ => s (l.map fun x => (x ()).vl)) fun x => .ret (val (.d x)))
def boundP (x : Option Operand) (l : List PV) (z : Unit → Int) : Option ((Unit → Int) × (Unit → Prop) × List PV) := match x with
 | none => some (z, fun _ => True, l)
 | some _ => match l with
  | .d j :: r => some (fun _ => intD (j ()), fun _ => IsI (j ()), r)
  | _ => none
def pSlice (E : TI) (lo hi : Option Operand) : List PV → Tr Eff
 | .d x :: l => ofOpt 36 (boundP lo l fun _ => 0) fun (a, pa, l) => ofOpt 37 (boundP hi l fun _ => ((x ()).es.length : Int)) fun (b, pb, l) =>
  .ask (fun _ => IsS (x ()) ∧ ∀ e ∈ (x ()).es, e.length = E.size) (.ask (fun _ => pa () ∧ pb () ∧ 0 ≤ a () ∧ a () ≤ b () ∧ b () ≤ (x ()).es.length) (.ret (val (.d fun _ => .sl (((x ()).es.take (b ()).toNat).drop (a ()).toNat)))))
 | _ => .fail 38
def isC : Operand → Bool
 | .const _ => true
 | _ => false
def kindB (k : TK) (x y : Operand) : TK := match k with
 | .ifc => if isC x || isC y then .ifc else .sc
 | k => k
def core (ti : Tb) (i : Nat) : Op → List PV → Tr Eff
 | .move _, [x] => .ret (val x)
 | .assign _, [x] => .ret (val x)
 | .pick _ _ _, [.d c, x, y] => .ask (fun _ => IsB (c ())) (pPick c x y)
 | .pick _ _ _, [.b c, x, y] => .ret (val (if c then x else y))
 | .alloc t, [] => ofOpt 39 (ti t) fun T => .ret ⟨.ptr i 0, [(i, some (.blk (T.z.map zcell)))]⟩
 | .box _ _, [x] => ofOpt 40 (cellsOf x) fun cs => .ret ⟨.ptr i 0, [(i, some (.blk cs))]⟩
 | .build t ps, vs => ofOpt 41 (ti t) fun T => match T.k with
  | .st fs => ofOpt 91 (placesT ti fs) fun pl => ofOpt 42 (fillP pl (ps.toList.map (·.1)) vs (T.z.map zcell)) fun cs => .ret (val (.agg cs))
  | _ => .fail 43
 | .buildSlice t n ps, vs => ofOpt 44 (ti t) fun T => match T.k with
  | .sl e => ofOpt 45 (ti e) fun E => if n = ps.size ∧ ¬ E.size = 0 ∧ n * E.size ≤ 2 ^ 24 then ofOpt 46 (elemsP E.size 0 (ps.toList.map (·.1)) vs) fun l => .ret ⟨.own i (i + 1), [(i, some (.row (i + 1) e E.size (fun _ => elemsV l)))]⟩ else .fail 47
  | _ => .fail 48
 | .load t _, vs => ofOpt 49 (ti t) fun T => pLoad T vs
 | .store t _ _, vs => ofOpt 50 (ti t) fun T => pStore T vs
 | .nilCheck _, vs => pNil vs
 | .binOp op t x y _, vs => ofOpt 77 (ti t) fun T => pBin (kindB T.k x y) op vs
 | .unOp op _ _, vs => pRunL (fun l => Op.unary op (l.getD 0 .nilFunc)) vs
 | .convert s t _, vs => pRunL (fun l => convert s t (l.getD 0 .nilFunc)) vs
 | .index t _ _, vs => pRunL (fun l => Instr.index t (l.getD 0 .nilFunc) (l.getD 1 .nilFunc)) vs
 | .makeInterface t _, vs => ofOpt 51 (ti t) fun T => match T.k, vs with
  | .ifc, _ => .fail 52
  | _, [.d x] => .ret (val (.d fun _ => .ifc t (x ())))
  | _, [.ptr b o] => .ret (val (.ifp t (.ptr b o)))
  | _, _ => .fail 53
 | .makeFunc f a b, vs => .ret (val (.fn f (vs.take a.size) (vs.drop a.size)))
 | .slice t x lo hi none, vs => ofOpt 54 (ti t) fun T => match T.k with
  | .sl e => ofOpt 89 (ti e) fun E => pSlice E lo hi vs
  | _ => pRunL (fun l => match lo, hi with
    | none, none => Instr.sliceAt t (l.getD 0 .nilFunc) none none none
    | some _, none => Instr.sliceAt t (l.getD 0 .nilFunc) (some (l.getD 1 .nilFunc)) none none
    | none, some _ => Instr.sliceAt t (l.getD 0 .nilFunc) none (some (l.getD 1 .nilFunc)) none
    | some _, some _ => Instr.sliceAt t (l.getD 0 .nilFunc) (some (l.getD 1 .nilFunc)) (some (l.getD 2 .nilFunc)) none) vs
 | .fieldAddr t _ j, vs => ofOpt 55 (ti t) fun T => match T.k with
  | .st fs => ofOpt 56 fs[j]? fun (off, u) => ofOpt 57 (ti u) fun U => if U.size = 0 then .fail 58 else pFieldAddr off vs
  | _ => .fail 59
 | .field t _ j, vs => ofOpt 60 (ti t) fun T => match T.k with
  | .st fs => ofOpt 61 fs[j]? fun (off, u) => ofOpt 62 (ti u) fun U => pField off U vs
  | _ => .fail 63
 | .indexAddr t _ _, vs => ofOpt 64 (ti t) fun T => match T.k with
  | .sl e => ofOpt 65 (ti e) fun E => if E.size = 0 then .fail 66 else pIndexAddr E vs
  | _ => .fail 67
 | .extract _ j, [.tup vs] => ofOpt 68 vs[j]? fun x => .ret (val x)
 | .call c, vs => match c.callee with
  | .builtin .len => match c.argTypes.toList with
   | [t] => ofOpt 87 (ti t) fun T => pLen T.k vs
   | _ => .fail 88
  | .builtin .append => match c.argTypes.toList with
   | [t, t'] => if t = t' then ofOpt 69 (ti t) fun T => match T.k with
     | .sl e => ofOpt 70 (ti e) fun E => if E.size = 0 ∨ E.bytes = 0 then .fail 90 else pAppend i e E vs
     | _ => .fail 71
    else .fail 72
   | _ => .fail 73
  | .builtin .min => pMM true vs
  | .builtin .max => pMM false vs
  | .value _ => match vs with
   | .fn (.func f) xs ys :: xs0 => pCall i f (xs ++ xs0 ++ ys)
   | _ => .fail 74
  | _ => .fail 75
 | _, _ => .fail 76
def unb : PV → PV
 | .b v => .d fun _ => .lit (.bool v)
 | x => x
def isPick : Op → Bool
 | .pick .. => true
 | _ => false
def core' (ti : Tb) (i : Nat) (op : Op) (vs : List PV) : Tr Eff := if isPick op then core ti i op vs else core ti i op (vs.map unb)
def St.set (s : St) (d : Option Tmp) (x : PV) : St := match d with
 | some d => { s with t := (d, x) :: s.t }
 | none => s
def over (m : List (Nat × Ob)) : List (Nat × Option Ob) → List (Nat × Ob)
 | [] => m
 | (b, some o) :: r => over ((b, o) :: m.filter fun x => x.1 != b) r
 | (b, none) :: r => over (m.filter fun x => x.1 != b) r
def St.put (s : St) (d : Option Tmp) (e : Eff) : St := { (s.set d e.v) with m := over s.m e.m }
def St.next (s : St) (n : Nat) : St := { s with nx := s.nx + 8 * n }
structure FP where
 r : List Nat
 w : List Nat
def constP (v : Value) : PV := bif litB v then .d (fun _ => .lit v) else match v with
 | .agg cs => bif cs.toList.all litB then .agg (cs.toList.map fun v => .d fun _ => .lit v) else .dead
 | _ => .dead
def evT (G : List (Nat × List DV)) (T : Nat → PV) : Operand → PV
 | .tmp t => T t
 | .const v => constP v
 | .global g => match lk G g with
  | some cs => .ept (fun _ => cs) 0
  | none => .dead
 | .func f => .fn (.func f) [] []
def kaDrop (ka : List (Nat × Bool)) : Option Tmp → List (Nat × Bool)
 | some d => ka.filter fun x => x.1 != d
 | none => ka
def pop (ti : Tb) (G : List (Nat × List DV)) (j : Nat) (o : Oper) (s : St) : Tr (Eff × List Nat) := (core' ti (s.nx + 8 * j) o.op (o.op.operands.toList.map (evT G s.T))).at s.m []
def pops (ti : Tb) (G : List (Nat × List DV)) (ops : Array Oper) (nt : Nat) : List Oper → Nat → St → List FP → List (Nat × Bool) → Tr (St × List FP)
 | [], _, s, fp, _ => .ret (s, fp.reverse)
 | o :: r, j, s, fp, ka =>
  if o.dst.all (· < nt) then match o.guard with
   | none => (pop ti G j o s).bind fun x => pops ti G ops nt r (j + 1) (s.put o.dst x.1) (⟨x.2, x.1.m.map (·.1)⟩ :: fp) (kaDrop ka o.dst)
   | some (jj, want) => match (ops[jj]?).bind (·.dst) with
    | none => .fail 79
    | some d => match lk ka d with
     | some v => if v = want then (pop ti G j o s).bind fun x => pops ti G ops nt r (j + 1) (s.put o.dst x.1) (⟨x.2, x.1.m.map (·.1)⟩ :: fp) (kaDrop ka o.dst)
      else pops ti G ops nt r (j + 1) (s.put o.dst ⟨.tup [], []⟩) (⟨[], []⟩ :: fp) (kaDrop ka o.dst)
     | none => match s.T d with
      | .tup [] => pops ti G ops nt r (j + 1) (s.put o.dst ⟨.tup [], []⟩) (⟨[], []⟩ :: fp) (kaDrop ka o.dst)
      | .b v => if v = want then (pop ti G j o s).bind fun x => pops ti G ops nt r (j + 1) (s.put o.dst x.1) (⟨x.2, x.1.m.map (·.1)⟩ :: fp) (kaDrop ka o.dst)
       else pops ti G ops nt r (j + 1) (s.put o.dst ⟨.tup [], []⟩) (⟨[], []⟩ :: fp) (kaDrop ka o.dst)
      | .d c => .ask (fun _ => IsB (c ())) (.br (fun _ => boolOf (c ()) == want)
        (fun _ => (pop ti G j o s).bind fun x => pops ti G ops nt r (j + 1) (s.put o.dst x.1) (⟨x.2, x.1.m.map (·.1)⟩ :: fp) (kaDrop ((d, want) :: ka) o.dst))
        (fun _ => pops ti G ops nt r (j + 1) (s.put o.dst ⟨.tup [], []⟩) (⟨[], []⟩ :: fp) (kaDrop ((d, !want) :: ka) o.dst)))
      | _ => .fail 80
  else .fail 92
def befL : List Oper → List Nat → List Nat
 | [], acc => acc
 | o :: r, acc => befL r (acc ++ [o.after.toList.foldl (fun s e => if Region.binds .any e then s ||| 2 ^ e.on ||| acc.getD e.on 0 else s) 0])
def tmpsOf : List Operand → List Nat
 | [] => []
 | .tmp t :: r => t :: tmpsOf r
 | _ :: r => tmpsOf r
def guardT (ops : Array Oper) (o : Oper) : List Nat := match o.guard with
 | none => []
 | some (jj, _) => ((ops[jj]?).bind (·.dst)).toList
def readsT (ops : Array Oper) (o : Oper) : List Nat := guardT ops o ++ tmpsOf o.op.operands.toList
def meets (l l' : List Nat) : Bool := l.any fun x => l'.contains x
def cfl (ops : Array Oper) (oi oj : Oper) (fi fj : FP) : Bool :=
 meets oi.dst.toList (oj.dst.toList ++ readsT ops oj) || meets oj.dst.toList (readsT ops oi) || meets fi.w (fj.w ++ fj.r) || meets fj.w fi.r
def ordRow (ops : Array Oper) (oj : Oper) (fj : FP) (bits : Nat) : Nat → List (Oper × FP) → Bool
 | _, [] => true
 | i, (oi, fi) :: r => (bits.testBit i || !cfl ops oi oj fi fj) && ordRow ops oj fj bits (i + 1) r
def ordAll (ops : Array Oper) (l : List (Oper × FP)) (bs : List Nat) : Nat → List (Oper × FP) → Bool
 | _, [] => true
 | j, (oj, fj) :: r => ordRow ops oj fj (bs.getD j 0) 0 (l.take j) && (oj.after.toList.all fun e => !Region.binds .any e || e.on < j) && ordAll ops l bs (j + 1) r
def ordOk (ops : Array Oper) (fp : List FP) : Bool := fp.length == ops.size && ordAll ops (ops.toList.zip fp) (befL ops.toList []) 0 (ops.toList.zip fp)
def ev (ti : Tb) (G : List (Nat × List DV)) (nt : Nat) : Code → St → Tr (Exit × St)
 | .skip, s => .ret (.normal, s)
 | .label _, s => .ret (.normal, s)
 | .ret, s => .ret (.ret, s)
 | .exit id, s => .ret (.exit id, s)
 | .goto l, s => .ret (.goto l, s)
 | .region _ ops dr, s => (pops ti G ops nt ops.toList 0 s [] []).bind fun x => if dr then .ask (fun _ => ordOk ops x.2 = true) (.ret (.normal, x.1.next ops.size)) else .ret (.normal, x.1.next ops.size)
 | .seq x y, s => (ev ti G nt x s).bind fun q => match q.1 with
  | .normal => ev ti G nt y q.2
  | e => .ret (e, q.2)
 | .cond c x y, s => match evT G s.T c with
  | .b true => ev ti G nt x s
  | .b false => ev ti G nt y s
  | .d b => .ask (fun _ => IsB (b ())) (.br (fun _ => boolOf (b ())) (fun _ => ev ti G nt x s) (fun _ => ev ti G nt y s))
  | _ => .fail 81
 | .block id c, s => (ev ti G nt c s).bind fun q => match q.1 with
  | .exit j => if j = id then .ret (.normal, q.2) else .ret (.exit j, q.2)
  | e => .ret (e, q.2)
 | .loop c, s => .loop c s fun e s' => .ret (e, s')
 | _, _ => .fail 82
def resV (ti : Tb) (s : St) : List ResultVar → Tr (List PV)
 | [] => .ret []
 | .tmp t :: r => (resV ti s r).bind fun l => .ret (s.T t :: l)
 | .cell t ty :: r => ofOpt 83 (ti ty) fun T => match s.T t with
  | .ptr b o => .obj b fun
   | .blk cs => (partOf T ((cs.drop o).take T.size)).bind fun x => (resV ti s r).bind fun l => .ret (x :: l)
   | _ => .fail 93
  | _ => .fail 94
def ansOf : List PV → PV
 | [x] => x
 | l => .tup l
def argsT : Nat → List PV → List (Nat × PV)
 | _, [] => []
 | i, x :: r => (i, x) :: argsT (i + 1) r
def ansF (ti : Tb) (fn : Func) (s : St) : Tr (PV × St) := ((resV ti s fn.results.toList).at s.m []).bind fun x => .ret (ansOf x.1, s)
def evF (ti : Tb) (G : List (Nat × List DV)) (fn : Func) (c : Code) (args : List PV) (H : List (Nat × Ob)) (nx : Nat) : Tr (PV × St) :=
 (ev ti G fn.ntmps c ⟨argsT 0 args, H, nx, nx⟩).bind fun q => match q.1 with
  | .normal => ansF ti fn q.2
  | .ret => ansF ti fn q.2
  | _ => .fail 85
end Go.Proofs.YtlmbcoecipbblaaGreatDoor
namespace Go.Proofs.YtlmbcoecipbblaaGreatDoor
open Go.RowKit
def zsV (z : List ZK) : List Value := z.map ZK.v
def TI.zv (T : TI) : Value := match T.k with
 | .st _ => .agg (zsV T.z).toArray
 | _ => (zsV T.z).headD .nilFunc
def KindOk (k : TK) (d : TypeDesc) : Prop := match k with
 | .st fs => ∃ l, d = .struct l ∧ l.toList.map (fun f => (f.offset, f.type)) = fs
 | .sl e => d = .slice e
 | .bool => d = .bool
 | .str => d = .string
 | .ifc => ∃ ms, d = .interface ms
 | .sc => d.isRow = false ∧ ∀ ms, d ≠ .interface ms
structure TyI (P : Program) (t : TypeId) (T : TI) : Prop where
 info : (P.info? t).map (fun i => (i.size, i.bytes, i.zero)) = some (T.size, T.bytes, some T.zv)
 und : ∃ d, P.underlying t = some d ∧ KindOk T.k d
 len : T.z.length = T.size
 one : (match T.k with | .st _ => True | _ => T.size = 1)
def TyOk (P : Program) (ti : Tb) : Prop := ∀ t T, ti t = some T → TyI P t T
theorem TyI.size {P : Program} {t : TypeId} {T : TI} (h : TyI P t T) : (P.info? t).map (·.size) = some T.size := by
 have := h.info
 cases hq : P.info? t with
 | none => simp [hq] at this
 | some i => simp [hq] at this ⊢; exact this.1
theorem TyI.sizeOf {P : Program} {t : TypeId} {T : TI} (h : TyI P t T) (w : World) : (Go.sizeOf t).run P w = .ok T.size w := by
 have := h.size
 cases hq : P.info? t with
 | none => simp [hq] at this
 | some i =>
  have hs : i.size = T.size := by simpa [hq] using this
  simp [Go.sizeOf, typeInfo, hq, hs]
theorem TyI.zero {P : Program} {t : TypeId} {T : TI} (h : TyI P t T) (w : World) : (zeroValue t).run P w = .ok T.zv w := by
 have := h.info
 cases hq : P.info? t with
 | none => simp [hq] at this
 | some i =>
  have hs : i.zero = some T.zv := by simp [hq] at this; exact this.2.2
  simp [zeroValue, typeInfo, hq, hs]
theorem ZK.one (z : ZK) : z.v.oneCell' = true := by cases z <;> rfl
theorem ZK.lit (z : ZK) : litB z.v = true := by cases z <;> first | rfl | (unfold ZK.v litB; simp [Value.oneCell', maxLen])
theorem zsV_one (z : List ZK) : ∀ u ∈ zsV z, u.oneCell' = true := fun u hu => by
 obtain ⟨x, _, rfl⟩ := List.mem_map.1 hu; exact x.one
theorem TyI.cells {P : Program} {t : TypeId} {T : TI} (h : TyI P t T) : T.zv.cells = (zsV T.z).toArray := by
 have h1 := h.one; have h2 := h.len
 unfold TI.zv
 split
 ·rfl
 ·rename_i hn
  have h3 : T.size = 1 := by
   cases hk : T.k with
   | st fs => exact absurd hk (hn fs)
   | _ => rw [hk] at h1; exact h1
  rw [h3] at h2
  obtain ⟨z, hz⟩ := List.length_eq_one_iff.1 h2
  rw [hz]
  exact one_cells z.one
theorem PVRs.zero {N : Nm} {h : Frag} : ∀ z : List ZK, PVRs N h (z.map zcell) (zsV z)
 | [] => by simp [PVRs, zsV]
 | z :: r => by
  rw [List.map_cons, PVRs]
  exact ⟨z.v, zsV r, rfl, by rw [zcell, PVR, DR]; exact ⟨rfl, z.lit⟩, PVRs.zero r⟩
inductive Yl (P : Program) (G : List (Nat × List DV)) (M : Nat → Option Ob) {α : Type} : Tr α → List Nat → List Nat → α → Prop
 | ret {x l} : Yl P G M (.ret x) l l x
 | ask {p k l l' x} : p () → Yl P G M k l l' x → Yl P G M (.ask p k) l l' x
 | brT {c t e l l' x} : c () = true → Yl P G M (t ()) l l' x → Yl P G M (.br c t e) l l' x
 | brF {c t e l l' x} : c () = false → Yl P G M (e ()) l l' x → Yl P G M (.br c t e) l l' x
 | get {es i k e l l' x} : 0 ≤ i () → (es ())[(i ()).toNat]? = some e → Yl P G M (k fun _ => e) l l' x → Yl P G M (.get es i k) l l' x
 | run {s k v l l' x} : litB v = true → (∀ w, (s ()).run P w = .ok v w) → Yl P G M (k fun _ => .lit v) l l' x → Yl P G M (.run s k) l l' x
 | call {f xs H fr k r H' l l' x} : PRun P G f xs H fr r H' → Yl P G M (k r H') l l' x → Yl P G M (.call f xs H fr k) l l' x
 | obj {b o k l l' x} : M b = some o → Yl P G M (k o) (b :: l) l' x → Yl P G M (.obj b k) l l' x
def ovr (M : Nat → Option Ob) : List (Nat × Option Ob) → Nat → Option Ob
 | [] => M
 | (b, o) :: r => ovr (fun i => if i = b then o else M i) r
section
variable {P : Program} {ti : Tb} {G : List (Nat × List DV)} {F Xp dm dm' : Nat → Prop} {w0 w : World} {N : Nm} {M : Nat → Option Ob} {o : Oper} {a : Act} {next : Act → World → Prop} {Q : Exit → Act → World → Prop} {e : Eff} {l l' : List Nat} {v : Value}
theorem Mem.more (H : Mem G F Xp dm w0 N M w) (hd : ∀ b, dm b → dm' b) : Mem G F Xp dm' w0 N M w := ⟨H.ext, H.flt, H.obj, H.apart, H.at_, fun b hb => H.dom b (fun h => hb (hd b h)), H.glob⟩
def Kont (G : List (Nat × List DV)) (F Xp dm dm' : Nat → Prop) (w0 : World) (N : Nm) (M : Nat → Option Ob) (w : World) (o : Oper) (a : Act) (next : Act → World → Prop) (e : Eff) : Prop :=
 ∀ v w' N', Nm.up dm N N' → Mem G F Xp dm' w0 N' (ovr M e.m) w' → FLe (rd F N M w) (rd F N' (ovr M e.m) w') → PVR N' (rd F N' (ovr M e.m) w') e.v v → next (a.put o.dst v) w'
theorem Kont.stay (K : Kont G F Xp dm dm' w0 N M w o a next e) (H : Mem G F Xp dm w0 N M w) (hd : ∀ b, dm b → dm' b) (hm : e.m = []) (hv : PVR N (rd F N M w) e.v v) : next (a.put o.dst v) w := by
 have := K v w N (Nm.up.refl dm N)
 rw [hm] at this
 exact this (H.more hd) (FLe.refl _) hv
theorem wp_val {w' : World} (h : (execOp a.eval o).run P w = .ok (.value v) w') (hn : next (a.put o.dst v) w') : o.wp P a w next Q := by
 unfold Oper.wp; rw [h]; exact hn
def OpOk (P : Program) (G : List (Nat × List DV)) (i : Nat) (op : Op) (vals : List PV) (t : Tr Eff) : Prop :=
 ∀ (F Xp dm dm' : Nat → Prop) (w0 w : World) (N : Nm) (M : Nat → Option Ob) (o : Oper) (a : Act) (next : Act → World → Prop) (Q : Exit → Act → World → Prop) (e : Eff) (l l' : List Nat),
  o.op = op → Mem G F Xp dm w0 N M w → PVRs N (rd F N M w) vals (op.operands.toList.map a.eval) → (∀ b, dm b → dm' b) → (∀ b ∈ names i, ¬ dm b ∧ dm' b) → Yl P G M t l l' e → Kont G F Xp dm dm' w0 N M w o a next e → o.wp P a w next Q
theorem PVRs.one {h : Frag} {p : PV} {ws : List Value} (hx : PVRs N h [p] ws) : ∃ v, ws = [v] ∧ PVR N h p v := by
 rw [PVRs] at hx
 obtain ⟨v, vs, rfl, h1, h2⟩ := hx
 rw [PVRs] at h2
 exact ⟨v, by rw [h2], h1⟩
theorem PVRs.two {h : Frag} {p q : PV} {ws : List Value} (hx : PVRs N h [p, q] ws) : ∃ u v, ws = [u, v] ∧ PVR N h p u ∧ PVR N h q v := by
 rw [PVRs] at hx
 obtain ⟨v, vs, rfl, h1, h2⟩ := hx
 obtain ⟨u, rfl, h3⟩ := h2.one
 exact ⟨v, u, rfl, h1, h3⟩
theorem PVRs.cons {h : Frag} {p : PV} {r : List PV} {ws : List Value} (hx : PVRs N h (p :: r) ws) : ∃ v vs, ws = v :: vs ∧ PVR N h p v ∧ PVRs N h r vs := by
 rwa [PVRs] at hx
theorem PVRs.eq_nil {h : Frag} {ws : List Value} (hx : PVRs N h [] ws) : ws = [] := by rwa [PVRs] at hx
theorem map_one {a : Act} {x : Operand} {v : Value} (h : [x].map a.eval = [v]) : a.eval x = v := by simpa using h
theorem ok_fail {i n : Nat} {op : Op} {vals : List PV} : OpOk P G i op vals (.fail n) := fun _ _ _ _ _ _ _ _ _ _ _ _ _ _ _ _ _ _ _ _ hy _ => by cases hy
theorem ok_opt {α : Type} {i n : Nat} {op : Op} {vals : List PV} {x : Option α} {f : α → Tr Eff} (h : ∀ y, x = some y → OpOk P G i op vals (f y)) : OpOk P G i op vals (ofOpt n x f) := by
 unfold ofOpt; cases x with
 | none => exact ok_fail
 | some y => exact h y rfl
theorem ok_ask {i : Nat} {op : Op} {vals : List PV} {p : Unit → Prop} {t : Tr Eff} (h : p () → OpOk P G i op vals t) : OpOk P G i op vals (.ask p t) := fun F Xp dm dm' w0 w N M o a next Q e l l' h1 h2 h3 h4 h5 hy K => by
 cases hy with
 | ask hp hy => exact h hp F Xp dm dm' w0 w N M o a next Q e l l' h1 h2 h3 h4 h5 hy K
theorem ok_br {i : Nat} {op : Op} {vals : List PV} {c : Unit → Bool} {t t' : Unit → Tr Eff} (h : c () = true → OpOk P G i op vals (t ())) (h' : c () = false → OpOk P G i op vals (t' ())) : OpOk P G i op vals (.br c t t') := fun F Xp dm dm' w0 w N M o a next Q e l l' h1 h2 h3 h4 h5 hy K => by
 cases hy with
 | brT hp hy => exact h hp F Xp dm dm' w0 w N M o a next Q e l l' h1 h2 h3 h4 h5 hy K
 | brF hp hy => exact h' hp F Xp dm dm' w0 w N M o a next Q e l l' h1 h2 h3 h4 h5 hy K
theorem ok_get {i : Nat} {op : Op} {vals : List PV} {es : Unit → List (List DV)} {j : Unit → Int} {k : (Unit → List DV) → Tr Eff} (h : ∀ e, 0 ≤ j () → (es ())[(j ()).toNat]? = some e → OpOk P G i op vals (k fun _ => e)) : OpOk P G i op vals (.get es j k) := fun F Xp dm dm' w0 w N M o a next Q e l l' h1 h2 h3 h4 h5 hy K => by
 cases hy with
 | get hp hq hy => exact h _ hp hq F Xp dm dm' w0 w N M o a next Q e l l' h1 h2 h3 h4 h5 hy K
theorem ok_val {i : Nat} {op : Op} {vals : List PV} {p : PV} (h : ∀ (o : Oper) (a : Act) (N : Nm) (hh : Frag) (w : World), o.op = op → FLe hh (frag w) → PVRs N hh vals (op.operands.toList.map a.eval) → ∃ v, (execOp a.eval o).run P w = .ok (.value v) w ∧ PVR N hh p v) : OpOk P G i op vals (.ret (val p)) := fun F Xp dm dm' w0 w N M o a next Q e l l' h1 h2 h3 h4 h5 hy K => by
 cases hy with
 | ret =>
  obtain ⟨v, hr, hv⟩ := h o a N _ w h1 (fragX_frag _ _) h3
  exact wp_val hr (K.stay h2 h4 rfl hv)
end
end Go.Proofs.YtlmbcoecipbblaaGreatDoor
namespace Go.Proofs.YtlmbcoecipbblaaGreatDoor
open Go.RowKit
set_option maxRecDepth 100000
def tI (t : Nat) : Option TI := if t < 64 then (if t < 32 then (if t < 24 then (if t < 20 then (if t < 4 then (if t = 3 then some ⟨1, 8, .sc, [.int .i64]⟩ else none) else (if t < 9 then (if t = 4 then some ⟨1, 1, .bool, [.bool]⟩ else none) else (if t = 9 then some ⟨1, 16, .str, [.str]⟩ else none))) else (if t < 22 then (if t = 20 then some ⟨1, 16, .ifc, [.ifc]⟩ else none) else (if t < 23 then (if t = 22 then some ⟨1, 8, .sc, [.int .u64]⟩ else none) else (if t = 23 then some ⟨1, 24, .sl 93, [.sl]⟩ else none)))) else (if t < 28 then (if t < 25 then (if t = 24 then some ⟨1, 24, .sl 27, [.sl]⟩ else none) else (if t < 27 then (if t = 25 then some ⟨1, 24, .sl 97, [.sl]⟩ else none) else (if t = 27 then some ⟨7, 120, .st [(0, 3), (1, 22), (2, 9), (3, 23), (4, 9), (5, 24), (6, 25)], [.int .i64, .int .u64, .str, .sl, .str, .sl, .sl]⟩ else none))) else (if t < 29 then (if t = 28 then some ⟨1, 24, .sl 60, [.sl]⟩ else none) else (if t < 30 then (if t = 29 then some ⟨1, 24, .sl 81, [.sl]⟩ else none) else (if t = 30 then some ⟨1, 24, .sl 64, [.sl]⟩ else none))))) else (if t < 41 then (if t < 37 then (if t < 35 then (if t = 32 then some ⟨21, 360, .st [(0, 3), (1, 27), (8, 27), (15, 28), (16, 4), (17, 9), (18, 9), (19, 29), (20, 30)], [.int .i64, .int .i64, .int .u64, .str, .sl, .str, .sl, .sl, .int .i64, .int .u64, .str, .sl, .str, .sl, .sl, .sl, .bool, .str, .str, .sl, .sl]⟩ else none) else (if t < 36 then (if t = 35 then some ⟨1, 24, .sl 95, [.sl]⟩ else none) else (if t = 36 then some ⟨1, 24, .sl 39, [.sl]⟩ else none))) else (if t < 39 then (if t = 37 then some ⟨1, 24, .sl 99, [.sl]⟩ else none) else (if t < 40 then (if t = 39 then some ⟨7, 120, .st [(0, 3), (1, 22), (2, 9), (3, 35), (4, 9), (5, 36), (6, 37)], [.int .i64, .int .u64, .str, .sl, .str, .sl, .sl]⟩ else none) else (if t = 40 then some ⟨1, 24, .sl 62, [.sl]⟩ else none)))) else (if t < 47 then (if t < 42 then (if t = 41 then some ⟨1, 24, .sl 75, [.sl]⟩ else none) else (if t < 44 then (if t = 42 then some ⟨1, 24, .sl 66, [.sl]⟩ else none) else (if t = 44 then some ⟨21, 360, .st [(0, 3), (1, 39), (8, 39), (15, 40), (16, 4), (17, 9), (18, 9), (19, 41), (20, 42)], [.int .i64, .int .i64, .int .u64, .str, .sl, .str, .sl, .sl, .int .i64, .int .u64, .str, .sl, .str, .sl, .sl, .sl, .bool, .str, .str, .sl, .sl]⟩ else none))) else (if t < 60 then (if t = 47 then some ⟨1, 16, .ifc, [.ifc]⟩ else none) else (if t < 62 then (if t = 60 then some ⟨22, 368, .st [(0, 3), (1, 32)], [.int .i64, .int .i64, .int .i64, .int .u64, .str, .sl, .str, .sl, .sl, .int .i64, .int .u64, .str, .sl, .str, .sl, .sl, .sl, .bool, .str, .str, .sl, .sl]⟩ else none) else (if t = 62 then some ⟨22, 368, .st [(0, 3), (1, 44)], [.int .i64, .int .i64, .int .i64, .int .u64, .str, .sl, .str, .sl, .sl, .int .i64, .int .u64, .str, .sl, .str, .sl, .sl, .sl, .bool, .str, .str, .sl, .sl]⟩ else none)))))) else (if t < 95 then (if t < 81 then (if t < 70 then (if t < 66 then (if t = 64 then some ⟨28, 480, .st [(0, 27), (7, 32)], [.int .i64, .int .u64, .str, .sl, .str, .sl, .sl, .int .i64, .int .i64, .int .u64, .str, .sl, .str, .sl, .sl, .int .i64, .int .u64, .str, .sl, .str, .sl, .sl, .sl, .bool, .str, .str, .sl, .sl]⟩ else none) else (if t < 67 then (if t = 66 then some ⟨28, 480, .st [(0, 39), (7, 44)], [.int .i64, .int .u64, .str, .sl, .str, .sl, .sl, .int .i64, .int .i64, .int .u64, .str, .sl, .str, .sl, .sl, .int .i64, .int .u64, .str, .sl, .str, .sl, .sl, .sl, .bool, .str, .str, .sl, .sl]⟩ else none) else (if t = 67 then some ⟨1, 24, .sl 47, [.sl]⟩ else none))) else (if t < 75 then (if t = 70 then some ⟨1, 8, .sc, [.fn]⟩ else none) else (if t < 77 then (if t = 75 then some ⟨30, 496, .st [(0, 3), (1, 3), (2, 39), (9, 44)], [.int .i64, .int .i64, .int .i64, .int .u64, .str, .sl, .str, .sl, .sl, .int .i64, .int .i64, .int .u64, .str, .sl, .str, .sl, .sl, .int .i64, .int .u64, .str, .sl, .str, .sl, .sl, .sl, .bool, .str, .str, .sl, .sl]⟩ else none) else (if t = 77 then some ⟨1, 8, .sc, [.fn]⟩ else none)))) else (if t < 88 then (if t < 82 then (if t = 81 then some ⟨30, 496, .st [(0, 3), (1, 3), (2, 27), (9, 32)], [.int .i64, .int .i64, .int .i64, .int .u64, .str, .sl, .str, .sl, .sl, .int .i64, .int .i64, .int .u64, .str, .sl, .str, .sl, .sl, .int .i64, .int .u64, .str, .sl, .str, .sl, .sl, .sl, .bool, .str, .str, .sl, .sl]⟩ else none) else (if t < 85 then (if t = 82 then some ⟨1, 8, .sc, [.fn]⟩ else none) else (if t = 85 then some ⟨1, 8, .sc, [.fn]⟩ else none))) else (if t < 90 then (if t = 88 then some ⟨1, 24, .sl 32, [.sl]⟩ else none) else (if t < 93 then (if t = 90 then some ⟨1, 8, .sc, [.fn]⟩ else none) else (if t = 93 then some ⟨8, 128, .st [(0, 3), (1, 27)], [.int .i64, .int .i64, .int .u64, .str, .sl, .str, .sl, .sl]⟩ else none))))) else (if t < 142 then (if t < 116 then (if t < 97 then (if t = 95 then some ⟨8, 128, .st [(0, 3), (1, 39)], [.int .i64, .int .i64, .int .u64, .str, .sl, .str, .sl, .sl]⟩ else none) else (if t < 99 then (if t = 97 then some ⟨14, 240, .st [(0, 27), (7, 27)], [.int .i64, .int .u64, .str, .sl, .str, .sl, .sl, .int .i64, .int .u64, .str, .sl, .str, .sl, .sl]⟩ else none) else (if t = 99 then some ⟨14, 240, .st [(0, 39), (7, 39)], [.int .i64, .int .u64, .str, .sl, .str, .sl, .sl, .int .i64, .int .u64, .str, .sl, .str, .sl, .sl]⟩ else none))) else (if t < 120 then (if t = 116 then some ⟨1, 8, .sc, [.fn]⟩ else none) else (if t < 140 then (if t = 120 then some ⟨1, 8, .sc, [.fn]⟩ else none) else (if t = 140 then some ⟨1, 24, .sl 3, [.sl]⟩ else none)))) else (if t < 155 then (if t < 144 then (if t = 142 then some ⟨1, 8, .sc, [.ptr]⟩ else none) else (if t < 153 then (if t = 144 then some ⟨2, 32, .st [(0, 29), (1, 3)], [.sl, .int .i64]⟩ else none) else (if t = 153 then some ⟨1, 8, .sc, [.ptr]⟩ else none))) else (if t < 159 then (if t = 155 then some ⟨2, 48, .st [(0, 29), (1, 29)], [.sl, .sl]⟩ else none) else (if t < 161 then (if t = 159 then some ⟨1, 8, .sc, [.ptr]⟩ else none) else (if t = 161 then some ⟨2, 48, .st [(0, 24), (1, 24)], [.sl, .sl]⟩ else none))))))
theorem ty3 : TyI Tryz.prog 3 ⟨1, 8, .sc, [.int .i64]⟩ := ⟨by kernel_rfl, ⟨_, Tryz.underlying3, ⟨rfl, fun _ h => nomatch h⟩⟩, rfl, rfl⟩
theorem ty4 : TyI Tryz.prog 4 ⟨1, 1, .bool, [.bool]⟩ := ⟨by kernel_rfl, ⟨_, Tryz.underlying4, rfl⟩, rfl, rfl⟩
theorem ty9 : TyI Tryz.prog 9 ⟨1, 16, .str, [.str]⟩ := ⟨by kernel_rfl, ⟨_, Tryz.underlying9, rfl⟩, rfl, rfl⟩
theorem ty20 : TyI Tryz.prog 20 ⟨1, 16, .ifc, [.ifc]⟩ := ⟨by kernel_rfl, ⟨_, Tryz.underlying20, ⟨_, rfl⟩⟩, rfl, rfl⟩
theorem ty22 : TyI Tryz.prog 22 ⟨1, 8, .sc, [.int .u64]⟩ := ⟨by kernel_rfl, ⟨_, Tryz.underlying22, ⟨rfl, fun _ h => nomatch h⟩⟩, rfl, rfl⟩
theorem ty23 : TyI Tryz.prog 23 ⟨1, 24, .sl 93, [.sl]⟩ := ⟨by kernel_rfl, ⟨_, Tryz.underlying23, rfl⟩, rfl, rfl⟩
theorem ty24 : TyI Tryz.prog 24 ⟨1, 24, .sl 27, [.sl]⟩ := ⟨by kernel_rfl, ⟨_, Tryz.underlying24, rfl⟩, rfl, rfl⟩
theorem ty25 : TyI Tryz.prog 25 ⟨1, 24, .sl 97, [.sl]⟩ := ⟨by kernel_rfl, ⟨_, Tryz.underlying25, rfl⟩, rfl, rfl⟩
theorem ty27 : TyI Tryz.prog 27 ⟨7, 120, .st [(0, 3), (1, 22), (2, 9), (3, 23), (4, 9), (5, 24), (6, 25)], [.int .i64, .int .u64, .str, .sl, .str, .sl, .sl]⟩ := ⟨by kernel_rfl, ⟨_, Tryz.underlying27, ⟨_, rfl, rfl⟩⟩, rfl, trivial⟩
theorem ty28 : TyI Tryz.prog 28 ⟨1, 24, .sl 60, [.sl]⟩ := ⟨by kernel_rfl, ⟨_, Tryz.underlying28, rfl⟩, rfl, rfl⟩
theorem ty29 : TyI Tryz.prog 29 ⟨1, 24, .sl 81, [.sl]⟩ := ⟨by kernel_rfl, ⟨_, Tryz.underlying29, rfl⟩, rfl, rfl⟩
theorem ty30 : TyI Tryz.prog 30 ⟨1, 24, .sl 64, [.sl]⟩ := ⟨by kernel_rfl, ⟨_, Tryz.underlying30, rfl⟩, rfl, rfl⟩
theorem ty32 : TyI Tryz.prog 32 ⟨21, 360, .st [(0, 3), (1, 27), (8, 27), (15, 28), (16, 4), (17, 9), (18, 9), (19, 29), (20, 30)], [.int .i64, .int .i64, .int .u64, .str, .sl, .str, .sl, .sl, .int .i64, .int .u64, .str, .sl, .str, .sl, .sl, .sl, .bool, .str, .str, .sl, .sl]⟩ := ⟨by kernel_rfl, ⟨_, Tryz.underlying32, ⟨_, rfl, rfl⟩⟩, rfl, trivial⟩
theorem ty35 : TyI Tryz.prog 35 ⟨1, 24, .sl 95, [.sl]⟩ := ⟨by kernel_rfl, ⟨_, Tryz.underlying35, rfl⟩, rfl, rfl⟩
theorem ty36 : TyI Tryz.prog 36 ⟨1, 24, .sl 39, [.sl]⟩ := ⟨by kernel_rfl, ⟨_, Tryz.underlying36, rfl⟩, rfl, rfl⟩
theorem ty37 : TyI Tryz.prog 37 ⟨1, 24, .sl 99, [.sl]⟩ := ⟨by kernel_rfl, ⟨_, Tryz.underlying37, rfl⟩, rfl, rfl⟩
theorem ty39 : TyI Tryz.prog 39 ⟨7, 120, .st [(0, 3), (1, 22), (2, 9), (3, 35), (4, 9), (5, 36), (6, 37)], [.int .i64, .int .u64, .str, .sl, .str, .sl, .sl]⟩ := ⟨by kernel_rfl, ⟨_, Tryz.underlying39, ⟨_, rfl, rfl⟩⟩, rfl, trivial⟩
theorem ty40 : TyI Tryz.prog 40 ⟨1, 24, .sl 62, [.sl]⟩ := ⟨by kernel_rfl, ⟨_, Tryz.underlying40, rfl⟩, rfl, rfl⟩
theorem ty41 : TyI Tryz.prog 41 ⟨1, 24, .sl 75, [.sl]⟩ := ⟨by kernel_rfl, ⟨_, Tryz.underlying41, rfl⟩, rfl, rfl⟩
theorem ty42 : TyI Tryz.prog 42 ⟨1, 24, .sl 66, [.sl]⟩ := ⟨by kernel_rfl, ⟨_, Tryz.underlying42, rfl⟩, rfl, rfl⟩
theorem ty44 : TyI Tryz.prog 44 ⟨21, 360, .st [(0, 3), (1, 39), (8, 39), (15, 40), (16, 4), (17, 9), (18, 9), (19, 41), (20, 42)], [.int .i64, .int .i64, .int .u64, .str, .sl, .str, .sl, .sl, .int .i64, .int .u64, .str, .sl, .str, .sl, .sl, .sl, .bool, .str, .str, .sl, .sl]⟩ := ⟨by kernel_rfl, ⟨_, Tryz.underlying44, ⟨_, rfl, rfl⟩⟩, rfl, trivial⟩
theorem ty47 : TyI Tryz.prog 47 ⟨1, 16, .ifc, [.ifc]⟩ := ⟨by kernel_rfl, ⟨_, Tryz.underlying47, ⟨_, rfl⟩⟩, rfl, rfl⟩
theorem ty60 : TyI Tryz.prog 60 ⟨22, 368, .st [(0, 3), (1, 32)], [.int .i64, .int .i64, .int .i64, .int .u64, .str, .sl, .str, .sl, .sl, .int .i64, .int .u64, .str, .sl, .str, .sl, .sl, .sl, .bool, .str, .str, .sl, .sl]⟩ := ⟨by kernel_rfl, ⟨_, Tryz.underlying60, ⟨_, rfl, rfl⟩⟩, rfl, trivial⟩
theorem ty62 : TyI Tryz.prog 62 ⟨22, 368, .st [(0, 3), (1, 44)], [.int .i64, .int .i64, .int .i64, .int .u64, .str, .sl, .str, .sl, .sl, .int .i64, .int .u64, .str, .sl, .str, .sl, .sl, .sl, .bool, .str, .str, .sl, .sl]⟩ := ⟨by kernel_rfl, ⟨_, Tryz.underlying62, ⟨_, rfl, rfl⟩⟩, rfl, trivial⟩
theorem ty64 : TyI Tryz.prog 64 ⟨28, 480, .st [(0, 27), (7, 32)], [.int .i64, .int .u64, .str, .sl, .str, .sl, .sl, .int .i64, .int .i64, .int .u64, .str, .sl, .str, .sl, .sl, .int .i64, .int .u64, .str, .sl, .str, .sl, .sl, .sl, .bool, .str, .str, .sl, .sl]⟩ := ⟨by kernel_rfl, ⟨_, Tryz.underlying64, ⟨_, rfl, rfl⟩⟩, rfl, trivial⟩
theorem ty66 : TyI Tryz.prog 66 ⟨28, 480, .st [(0, 39), (7, 44)], [.int .i64, .int .u64, .str, .sl, .str, .sl, .sl, .int .i64, .int .i64, .int .u64, .str, .sl, .str, .sl, .sl, .int .i64, .int .u64, .str, .sl, .str, .sl, .sl, .sl, .bool, .str, .str, .sl, .sl]⟩ := ⟨by kernel_rfl, ⟨_, Tryz.underlying66, ⟨_, rfl, rfl⟩⟩, rfl, trivial⟩
theorem ty67 : TyI Tryz.prog 67 ⟨1, 24, .sl 47, [.sl]⟩ := ⟨by kernel_rfl, ⟨_, Tryz.underlying67, rfl⟩, rfl, rfl⟩
theorem ty70 : TyI Tryz.prog 70 ⟨1, 8, .sc, [.fn]⟩ := ⟨by kernel_rfl, ⟨_, Tryz.underlying70, ⟨rfl, fun _ h => nomatch h⟩⟩, rfl, rfl⟩
theorem ty75 : TyI Tryz.prog 75 ⟨30, 496, .st [(0, 3), (1, 3), (2, 39), (9, 44)], [.int .i64, .int .i64, .int .i64, .int .u64, .str, .sl, .str, .sl, .sl, .int .i64, .int .i64, .int .u64, .str, .sl, .str, .sl, .sl, .int .i64, .int .u64, .str, .sl, .str, .sl, .sl, .sl, .bool, .str, .str, .sl, .sl]⟩ := ⟨by kernel_rfl, ⟨_, Tryz.underlying75, ⟨_, rfl, rfl⟩⟩, rfl, trivial⟩
theorem ty77 : TyI Tryz.prog 77 ⟨1, 8, .sc, [.fn]⟩ := ⟨by kernel_rfl, ⟨_, Tryz.underlying77, ⟨rfl, fun _ h => nomatch h⟩⟩, rfl, rfl⟩
theorem ty81 : TyI Tryz.prog 81 ⟨30, 496, .st [(0, 3), (1, 3), (2, 27), (9, 32)], [.int .i64, .int .i64, .int .i64, .int .u64, .str, .sl, .str, .sl, .sl, .int .i64, .int .i64, .int .u64, .str, .sl, .str, .sl, .sl, .int .i64, .int .u64, .str, .sl, .str, .sl, .sl, .sl, .bool, .str, .str, .sl, .sl]⟩ := ⟨by kernel_rfl, ⟨_, Tryz.underlying81, ⟨_, rfl, rfl⟩⟩, rfl, trivial⟩
theorem ty82 : TyI Tryz.prog 82 ⟨1, 8, .sc, [.fn]⟩ := ⟨by kernel_rfl, ⟨_, Tryz.underlying82, ⟨rfl, fun _ h => nomatch h⟩⟩, rfl, rfl⟩
theorem ty85 : TyI Tryz.prog 85 ⟨1, 8, .sc, [.fn]⟩ := ⟨by kernel_rfl, ⟨_, Tryz.underlying85, ⟨rfl, fun _ h => nomatch h⟩⟩, rfl, rfl⟩
theorem ty88 : TyI Tryz.prog 88 ⟨1, 24, .sl 32, [.sl]⟩ := ⟨by kernel_rfl, ⟨_, Tryz.underlying88, rfl⟩, rfl, rfl⟩
theorem ty90 : TyI Tryz.prog 90 ⟨1, 8, .sc, [.fn]⟩ := ⟨by kernel_rfl, ⟨_, Tryz.underlying90, ⟨rfl, fun _ h => nomatch h⟩⟩, rfl, rfl⟩
theorem ty93 : TyI Tryz.prog 93 ⟨8, 128, .st [(0, 3), (1, 27)], [.int .i64, .int .i64, .int .u64, .str, .sl, .str, .sl, .sl]⟩ := ⟨by kernel_rfl, ⟨_, Tryz.underlying93, ⟨_, rfl, rfl⟩⟩, rfl, trivial⟩
theorem ty95 : TyI Tryz.prog 95 ⟨8, 128, .st [(0, 3), (1, 39)], [.int .i64, .int .i64, .int .u64, .str, .sl, .str, .sl, .sl]⟩ := ⟨by kernel_rfl, ⟨_, Tryz.underlying95, ⟨_, rfl, rfl⟩⟩, rfl, trivial⟩
theorem ty97 : TyI Tryz.prog 97 ⟨14, 240, .st [(0, 27), (7, 27)], [.int .i64, .int .u64, .str, .sl, .str, .sl, .sl, .int .i64, .int .u64, .str, .sl, .str, .sl, .sl]⟩ := ⟨by kernel_rfl, ⟨_, Tryz.underlying97, ⟨_, rfl, rfl⟩⟩, rfl, trivial⟩
theorem ty99 : TyI Tryz.prog 99 ⟨14, 240, .st [(0, 39), (7, 39)], [.int .i64, .int .u64, .str, .sl, .str, .sl, .sl, .int .i64, .int .u64, .str, .sl, .str, .sl, .sl]⟩ := ⟨by kernel_rfl, ⟨_, Tryz.underlying99, ⟨_, rfl, rfl⟩⟩, rfl, trivial⟩
theorem ty116 : TyI Tryz.prog 116 ⟨1, 8, .sc, [.fn]⟩ := ⟨by kernel_rfl, ⟨_, Tryz.underlying116, ⟨rfl, fun _ h => nomatch h⟩⟩, rfl, rfl⟩
theorem ty120 : TyI Tryz.prog 120 ⟨1, 8, .sc, [.fn]⟩ := ⟨by kernel_rfl, ⟨_, Tryz.underlying120, ⟨rfl, fun _ h => nomatch h⟩⟩, rfl, rfl⟩
theorem ty140 : TyI Tryz.prog 140 ⟨1, 24, .sl 3, [.sl]⟩ := ⟨by kernel_rfl, ⟨_, Tryz.underlying140, rfl⟩, rfl, rfl⟩
theorem ty142 : TyI Tryz.prog 142 ⟨1, 8, .sc, [.ptr]⟩ := ⟨by kernel_rfl, ⟨_, Tryz.underlying142, ⟨rfl, fun _ h => nomatch h⟩⟩, rfl, rfl⟩
theorem ty144 : TyI Tryz.prog 144 ⟨2, 32, .st [(0, 29), (1, 3)], [.sl, .int .i64]⟩ := ⟨by kernel_rfl, ⟨_, Tryz.underlying144, ⟨_, rfl, rfl⟩⟩, rfl, trivial⟩
theorem ty153 : TyI Tryz.prog 153 ⟨1, 8, .sc, [.ptr]⟩ := ⟨by kernel_rfl, ⟨_, Tryz.underlying153, ⟨rfl, fun _ h => nomatch h⟩⟩, rfl, rfl⟩
theorem ty155 : TyI Tryz.prog 155 ⟨2, 48, .st [(0, 29), (1, 29)], [.sl, .sl]⟩ := ⟨by kernel_rfl, ⟨_, Tryz.underlying155, ⟨_, rfl, rfl⟩⟩, rfl, trivial⟩
theorem ty159 : TyI Tryz.prog 159 ⟨1, 8, .sc, [.ptr]⟩ := ⟨by kernel_rfl, ⟨_, Tryz.underlying159, ⟨rfl, fun _ h => nomatch h⟩⟩, rfl, rfl⟩
theorem ty161 : TyI Tryz.prog 161 ⟨2, 48, .st [(0, 24), (1, 24)], [.sl, .sl]⟩ := ⟨by kernel_rfl, ⟨_, Tryz.underlying161, ⟨_, rfl, rfl⟩⟩, rfl, trivial⟩
theorem oI {p : Prop} [Decidable p] {a b : Option TI} {t : Nat} (ha : ∀ T, a = some T → TyI Tryz.prog t T) (hb : ∀ T, b = some T → TyI Tryz.prog t T) : ∀ T, (if p then a else b) = some T → TyI Tryz.prog t T := fun T h => by
 split at h
 ·exact ha T h
 ·exact hb T h
theorem oL {i t : Nat} {T0 : TI} (h0 : TyI Tryz.prog i T0) : ∀ T, (if t = i then some T0 else none) = some T → TyI Tryz.prog t T := fun T h => by
 split at h
 ·rename_i e; cases h; rw [e]; exact h0
 ·cases h
theorem tI_ok : TyOk Tryz.prog tI := fun t => oI (oI (oI (oI (oI (oL ty3) (oI (oL ty4) (oL ty9))) (oI (oL ty20) (oI (oL ty22) (oL ty23)))) (oI (oI (oL ty24) (oI (oL ty25) (oL ty27))) (oI (oL ty28) (oI (oL ty29) (oL ty30))))) (oI (oI (oI (oL ty32) (oI (oL ty35) (oL ty36))) (oI (oL ty37) (oI (oL ty39) (oL ty40)))) (oI (oI (oL ty41) (oI (oL ty42) (oL ty44))) (oI (oL ty47) (oI (oL ty60) (oL ty62)))))) (oI (oI (oI (oI (oL ty64) (oI (oL ty66) (oL ty67))) (oI (oL ty70) (oI (oL ty75) (oL ty77)))) (oI (oI (oL ty81) (oI (oL ty82) (oL ty85))) (oI (oL ty88) (oI (oL ty90) (oL ty93))))) (oI (oI (oI (oL ty95) (oI (oL ty97) (oL ty99))) (oI (oL ty116) (oI (oL ty120) (oL ty140)))) (oI (oI (oL ty142) (oI (oL ty144) (oL ty153))) (oI (oL ty155) (oI (oL ty159) (oL ty161))))))
end Go.Proofs.YtlmbcoecipbblaaGreatDoor
namespace Go.Proofs.YtlmbcoecipbblaaGreatDoor
open Go.RowKit
def Nm.setA (N : Nm) (i g : Nat) : Nm := ⟨fun b => if b = i then some g else N.A b, N.V⟩
def Nm.setV (N : Nm) (r k : Nat) (v : Value) : Nm := ⟨N.A, fun b j => if b = r ∧ j = k then some v else N.V b j⟩
theorem Nm.le_setA {N : Nm} {i g : Nat} (h : N.A i = none) : N.le (N.setA i g) := ⟨fun b x hb => by
 show (if b = i then some g else N.A b) = some x
 by_cases e : b = i
 ·subst e; rw [h] at hb; cases hb
 ·rw [if_neg e]; exact hb, fun _ _ _ h => h⟩
theorem Nm.le_setV {N : Nm} {r k : Nat} {v : Value} (h : N.V r k = none) : N.le (N.setV r k v) := ⟨fun _ _ h => h, fun b j x hb => by
 show (if b = r ∧ j = k then some v else N.V b j) = some x
 by_cases e : b = r ∧ j = k
 ·obtain ⟨rfl, rfl⟩ := e; rw [h] at hb; cases hb
 ·rw [if_neg e]; exact hb⟩
theorem Nm.up_setA {dm : Nat → Prop} {N : Nm} {i g : Nat} (h : N.A i = none) (hd : ¬ dm i) : Nm.up dm N (N.setA i g) := ⟨Nm.le_setA h, fun b hb => if_neg (fun e : b = i => hd (e ▸ hb)), fun _ _ _ => rfl⟩
theorem Nm.up_setV {dm : Nat → Prop} {N : Nm} {r k : Nat} {v : Value} (h : N.V r k = none) (hd : ¬ dm k) : Nm.up dm N (N.setV r k v) := ⟨Nm.le_setV h, fun _ _ => rfl, fun b q hb => if_neg (fun e : q = r ∧ b = k => hd (e.2 ▸ hb))⟩
theorem ovr_one (M : Nat → Option Ob) (i : Nat) (o : Option Ob) (b : Nat) : ovr M [(i, o)] b = if b = i then o else M b := rfl
section
variable {P : Program} {ti : Tb} {G : List (Nat × List DV)} {F Xp dm dm' : Nat → Prop} {w0 w : World} {N : Nm} {M : Nat → Option Ob} {o : Oper} {a : Act} {next : Act → World → Prop} {Q : Exit → Act → World → Prop} {e : Eff} {l l' : List Nat} {v : Value} {i : Nat}
theorem Mem.alloc (H : Mem G F Xp dm w0 N M w) (hd : ∀ b, dm b → dm' b) (h0 : ¬ dm i) (h1 : dm' i) {cs : List PV} {ws : List Value} (hp : PVRs N (rd F N M w) cs ws) (ho : ∀ u ∈ ws, u.oneCell' = true) (t : TypeId) :
  Mem G F Xp dm' w0 (N.setA i w.heap.size) (ovr M [(i, some (.blk cs))]) (w.alloc (.cells ws.toArray t)) ∧ FLe (rd F N M w) (rd F (N.setA i w.heap.size) (ovr M [(i, some (.blk cs))]) (w.alloc (.cells ws.toArray t))) := by
 have hN := Nm.le_setA (g := w.heap.size) (H.dom i h0).1
 refine H.step (W := fun b => b = i) (Ext.of_below ((Below.refl _ _).alloc (Nat.le_refl _) _) _) hN (fun b hb => if_neg hb) (fun b ob g hb hm ha => ?_) (fun b b' _ _ _ hb hb' _ _ _ _ => hb.trans hb'.symm) (fun hl b ob hb hm => ?_) (fun b hb => ?_)
 ·left
  rw [ovr_one, if_pos hb] at hm; cases hm
  have : (if b = i then some w.heap.size else N.A b) = some g := ha
  rw [if_pos hb] at this; cases this; exact Nat.le_refl _
 ·rw [ovr_one, if_pos hb] at hm; cases hm
  exact ⟨w.heap.size, ws, by show (if b = i then some w.heap.size else N.A b) = _; rw [if_pos hb], Blk.new w t ws, PVRs.mono hN hl _ _ hp, ho⟩
 ·have hne : b ≠ i := fun e => hb (e ▸ h1)
  have := H.dom b (fun h => hb (hd b h))
  exact ⟨by show (if b = i then some w.heap.size else N.A b) = none; rw [if_neg hne]; exact this.1, this.2⟩
theorem Mem.store (H : Mem G F Xp dm w0 N M w) (hd : ∀ b, dm b → dm' b) {b g : Nat} {cs0 cs : List PV} {ws : List Value} (hb : M b = some (.blk cs0)) (hg : N.A b = some g) {w' : World} (hw : Blk w' g ws) (hgr : w.grownBy w' (some g)) (hp : PVRs N (rd F N M w) cs ws) (ho : ∀ u ∈ ws, u.oneCell' = true) :
  Mem G F Xp dm' w0 N (ovr M [(b, some (.blk cs))]) w' ∧ FLe (rd F N M w) (rd F N (ovr M [(b, some (.blk cs))]) w') := by
 refine H.step (W := fun x => x = b) (Ext.of_grown hgr (fun k hk => ?_)) (Nm.le.refl N) (fun x hx => if_neg hx) (fun x ob g' hx hm ha => ?_) (fun x y _ _ _ hx hy _ _ _ _ => hx.trans hy.symm) (fun hl x ob hx hm => ?_) (fun x hx => H.dom x (fun h => hx (hd x h)))
 ·cases hk; exact ⟨b, _, rfl, hb, hg⟩
 ·right; rw [ovr_one, if_pos hx] at hm; cases hm; subst hx; exact ⟨x, _, rfl, hb, ha⟩
 ·rw [ovr_one, if_pos hx] at hm; cases hm; subst hx
  exact ⟨g, ws, hg, hw, PVRs.mono (Nm.le.refl N) hl _ _ hp, ho⟩
theorem Mem.row (H : Mem G F Xp dm w0 N M w) (hd : ∀ b, dm b → dm' b) {r k : Nat} (h0 : ¬ dm k) (h1 : dm' k) (hr : dm' r) {t n : Nat} {es : Unit → List (List DV)} {ess : List (List Value)} {v : Value} {w' : World} (hX : Option Nat) (hgr : w.grownBy w' hX) (hX0 : ∀ g, hX = some g → ∃ ob, M r = some ob ∧ adr N r ob = some g)
  (hv : v.ownBlock = hX ∨ ∃ g, v.ownBlock = some g ∧ w.heap.size ≤ g) (hw : w'.ownsRow 0 t n v (es ()).length ess.flatten) (hp : DRss (rd F N M w) (es ()) ess) (hs : ∀ e ∈ ess, e.length = n) :
  Mem G F Xp dm' w0 (N.setV r k v) (ovr M [(r, some (.row k t n es))]) w' ∧ FLe (rd F N M w) (rd F (N.setV r k v) (ovr M [(r, some (.row k t n es))]) w') := by
 have hN := Nm.le_setV (v := v) ((H.dom k h0).2 r).1
 have hvv : (N.setV r k v).V r k = some v := by show (if r = r ∧ k = k then some v else N.V r k) = _; rw [if_pos ⟨rfl, rfl⟩]
 refine H.step (W := fun x => x = r) (Ext.of_grown hgr (fun g hg => ?_)) hN (fun x hx => if_neg hx) (fun x ob g' hx hm ha => ?_) (fun x y _ _ _ hx hy _ _ _ _ => hx.trans hy.symm) (fun hl x ob hx hm => ?_) (fun x hx => ?_)
 ·obtain ⟨ob, h2, h3⟩ := hX0 g hg; exact ⟨r, ob, rfl, h2, h3⟩
 ·rw [ovr_one, if_pos hx] at hm; cases hm; subst hx
  rw [adr, hvv] at ha
  rcases hv with h2 | ⟨g, h2, h3⟩
  ·right
   have ha' : v.ownBlock = some g' := ha
   obtain ⟨ob, h4, h5⟩ := hX0 g' (h2 ▸ ha')
   exact ⟨x, ob, rfl, h4, h5⟩
  ·left
   have ha' : v.ownBlock = some g' := ha
   rw [h2] at ha'; cases ha'; exact h3
 ·rw [ovr_one, if_pos hx] at hm; cases hm; subst hx
  exact ⟨v, ess, hvv, hw, DRss.mono hl _ _ hp, hs⟩
 ·have := H.dom x (fun h => hx (hd x h))
  refine ⟨this.1, fun q => ?_⟩
  show (if q = r ∧ x = k then some v else N.V q x) = none ∧ (if x = r ∧ q = k then some v else N.V x q) = none
  rw [if_neg (fun e : q = r ∧ x = k => hx (by rw [e.2]; exact h1)), if_neg (fun e : x = r ∧ q = k => hx (by rw [e.1]; exact hr))]; exact this.2 q
theorem Mem.rowSet (H : Mem G F Xp dm w0 N M w) (hd : ∀ b, dm b → dm' b) {r k g : Nat} {t n : Nat} {es0 es : Unit → List (List DV)} {ess : List (List Value)} {v : Value} {w' : World} (hb : M r = some (.row k t n es0)) (hV : N.V r k = some v) (hg : v.ownBlock = some g) (hgr : w.grownBy w' (some g))
  (hw : w'.ownsRow 0 t n v (es ()).length ess.flatten) (hp : DRss (rd F N M w) (es ()) ess) (hs : ∀ e ∈ ess, e.length = n) :
  Mem G F Xp dm' w0 N (ovr M [(r, some (.row k t n es))]) w' ∧ FLe (rd F N M w) (rd F N (ovr M [(r, some (.row k t n es))]) w') := by
 have ha : adr N r (.row k t n es0) = some g := by rw [adr, hV]; exact hg
 refine H.step (W := fun x => x = r) (Ext.of_grown hgr (fun k hk => ?_)) (Nm.le.refl N) (fun x hx => if_neg hx) (fun x ob g' hx hm ha' => ?_) (fun x y _ _ _ hx hy _ _ _ _ => hx.trans hy.symm) (fun hl x ob hx hm => ?_) (fun x hx => H.dom x (fun h => hx (hd x h)))
 ·cases hk; exact ⟨r, _, rfl, hb, ha⟩
 ·right; rw [ovr_one, if_pos hx] at hm; cases hm; subst hx; exact ⟨x, _, rfl, hb, ha'⟩
 ·rw [ovr_one, if_pos hx] at hm; cases hm; subst hx
  exact ⟨v, ess, hV, hw, DRss.mono hl _ _ hp, hs⟩
theorem PVR.dInt {h : Frag} {x : Unit → DV} {v : Value} (hx : PVR N h (.d x) v) (hi : IsI (x ())) : ∃ k n, v = .int k n ∧ intD (x ()) = n := by
 obtain ⟨k, n, e⟩ := hi
 rw [PVR, e, DR] at hx
 exact ⟨k, n, hx.1, by rw [e]; rfl⟩
theorem PVR.dBool {h : Frag} {x : Unit → DV} {v : Value} (hx : PVR N h (.d x) v) (hi : IsB (x ())) : v = .bool (boolOf (x ())) := by
 obtain ⟨b, e⟩ := hi
 rw [PVR, e, DR] at hx
 rw [e]; exact hx.1
theorem PVR.dLit {h : Frag} {x : Unit → DV} {v u : Value} (hx : PVR N h (.d x) v) (e : x () = .lit u) : v = u := by
 rw [PVR, e, DR] at hx; exact hx.1
theorem PVR.lit {h : Frag} {x : Unit → DV} {v : Value} (e : x () = .lit v) (h1 : litB v = true) : PVR N h (.d x) v := by
 rw [PVR, e, DR]; exact ⟨rfl, h1⟩
theorem ok_move {x : Operand} {p : PV} : OpOk P G i (.move x) [p] (.ret (val p)) := ok_val fun o a N hh w ho hl hv => by
 obtain ⟨v, hw, hp⟩ := hv.one
 exact ⟨v, by simp [execOp, ho, map_one hw], hp⟩
theorem ok_assign {x : Operand} {p : PV} : OpOk P G i (.assign x) [p] (.ret (val p)) := ok_val fun o a N hh w ho hl hv => by
 obtain ⟨v, hw, hp⟩ := hv.one
 exact ⟨v, by simp [execOp, ho, map_one hw], hp⟩
theorem pick_run {c x y : Operand} {b : Bool} (ho : o.op = .pick c x y) (hc : a.eval c = .bool b) : (execOp a.eval o).run P w = .ok (.value (if b then a.eval x else a.eval y)) w := by
 simp [execOp, ho, hc, asBool]
theorem pick_parts {N : Nm} {h : Frag} {p q r : PV} {c x y : Operand} (hv : PVRs N h [p, q, r] ((Op.pick c x y).operands.toList.map a.eval)) : PVR N h p (a.eval c) ∧ PVR N h q (a.eval x) ∧ PVR N h r (a.eval y) := by
 obtain ⟨v, vs, hw, hp, hv⟩ := PVRs.cons hv
 obtain ⟨u, t, rfl, hq, hr⟩ := hv.two
 simp [Op.operands] at hw
 obtain ⟨rfl, rfl, rfl⟩ := hw
 exact ⟨hp, hq, hr⟩
theorem ok_pickT {c x y : Operand} {b : Unit → DV} {p q : PV} (hb : b () = .lit (.bool true)) : OpOk P G i (.pick c x y) [.d b, p, q] (.ret (val p)) := ok_val fun o a N hh w ho hl hv => by
 obtain ⟨h1, h2, h3⟩ := pick_parts hv
 exact ⟨_, pick_run ho (h1.dLit hb), by rw [if_pos rfl]; exact h2⟩
theorem ok_pickF {c x y : Operand} {b : Unit → DV} {p q : PV} (hb : b () = .lit (.bool false)) : OpOk P G i (.pick c x y) [.d b, p, q] (.ret (val q)) := ok_val fun o a N hh w ho hl hv => by
 obtain ⟨h1, h2, h3⟩ := pick_parts hv
 exact ⟨_, pick_run ho (h1.dLit hb), by rw [if_neg (by decide)]; exact h3⟩
theorem bool_lit {x : DV} (hi : IsB x) {b : Bool} (h : boolOf x = b) : x = .lit (.bool b) := by
 obtain ⟨c, rfl⟩ := hi
 cases h; rfl
theorem ok_pick {c x y : Operand} {b : Unit → DV} {p q : PV} (hb : IsB (b ())) : OpOk P G i (.pick c x y) [.d b, p, q] (pPick b p q) := by
 unfold pPick
 split
 ·refine ok_val fun o a N hh w ho hl hv => ?_
  obtain ⟨h1, h2, h3⟩ := pick_parts hv
  refine ⟨_, pick_run ho (h1.dBool hb), ?_⟩
  rw [PVR] at h2 h3 ⊢
  split <;> assumption
 ·exact ok_ask fun h => ok_pickF (bool_lit hb h)
 ·exact ok_ask fun h => ok_pickT (bool_lit hb h)
 ·exact ok_br (fun h => ok_pickT (bool_lit hb h)) (fun h => ok_pickF (bool_lit hb h))
theorem ok_pickb {c x y : Operand} {b : Bool} {p q : PV} : OpOk P G i (.pick c x y) [.b b, p, q] (.ret (val (if b then p else q))) := ok_val fun o a N hh w ho hl hv => by
 obtain ⟨h1, h2, h3⟩ := pick_parts hv
 rw [PVR] at h1
 refine ⟨_, pick_run ho h1, ?_⟩
 cases b
 ·exact h3
 ·exact h2
theorem ok_alloc {t : TypeId} {T : TI} (hT : TyI P t T) : OpOk P G i (.alloc t) [] (.ret ⟨.ptr i 0, [(i, some (.blk (T.z.map zcell)))]⟩) := fun F Xp dm dm' w0 w N M o a next Q e l l' h1 h2 h3 h4 h5 hy K => by
 cases hy with
 | ret =>
  have hi := h5 i (by simp [names])
  obtain ⟨q1, q2⟩ := h2.alloc h4 hi.1 hi.2 (PVRs.zero T.z) (zsV_one T.z) t
  refine wp_val (v := .pointer (some ⟨w.heap.size, 0, none⟩)) (w' := w.alloc (.cells (zsV T.z).toArray t)) ?_ (K _ _ _ (Nm.up_setA (h2.dom i hi.1).1 hi.1) q1 q2 ?_)
  ·simp [execOp, h1, Instr.alloc, hT.zero, newVar, newRow, hT.cells]
  ·rw [PVR]; exact ⟨_, if_pos rfl, rfl⟩
theorem cells_of {N : Nm} {h : Frag} {p : PV} {cs : List PV} {v : Value} (hc : cellsOf p = some cs) (hp : PVR N h p v) : ∃ ws, v.cells = ws.toArray ∧ PVRs N h cs ws ∧ ∀ u ∈ ws, u.oneCell' = true := by
 have key : v.oneCell' = true → cs = [p] → ∃ ws, v.cells = ws.toArray ∧ PVRs N h cs ws ∧ ∀ u ∈ ws, u.oneCell' = true := fun h1 e =>
  ⟨[v], one_cells h1, by rw [e, PVRs]; exact ⟨v, [], rfl, hp, by rw [PVRs]⟩, by simpa using h1⟩
 cases p with
 | d x => cases hc; exact key (by rw [PVR] at hp; exact hp.one) rfl
 | ptr b o => cases hc; exact key (by rw [PVR] at hp; obtain ⟨g, _, rfl⟩ := hp; rfl) rfl
 | own r k => cases hc; exact key (by rw [PVR] at hp; exact hp.2) rfl
 | ept cs o => cases hc; exact key (by rw [PVR] at hp; obtain ⟨g, off, cur, t, fr, ws, rfl, _⟩ := hp; rfl) rfl
 | rpt r k n i o => cases hc; exact key (by rw [PVR] at hp; obtain ⟨g, l, c, _, rfl⟩ := hp; rfl) rfl
 | agg cs' =>
  cases hc
  rw [PVR] at hp
  obtain ⟨ws, rfl, h2, h3⟩ := hp
  exact ⟨ws, rfl, h2, h3⟩
 | tup cs => cases hc
 | fn f xs ys => cases hc; exact key (by rw [PVR] at hp; obtain ⟨vs, ws, rfl, _⟩ := hp; rfl) rfl
 | ifp t x => cases hc; exact key (by rw [PVR] at hp; obtain ⟨u, rfl, _⟩ := hp; rfl) rfl
 | b u => cases hc; exact key (by rw [PVR] at hp; rw [hp]; rfl) rfl
 | dead => cases hc
theorem ok_box {t : TypeId} {x : Operand} {p : PV} {cs : List PV} (hc : cellsOf p = some cs) : OpOk P G i (.box t x) [p] (.ret ⟨.ptr i 0, [(i, some (.blk cs))]⟩) := fun F Xp dm dm' w0 w N M o a next Q e l l' h1 h2 h3 h4 h5 hy K => by
 cases hy with
 | ret =>
  obtain ⟨v, hw, hp⟩ := h3.one
  obtain ⟨ws, hv, hs, ho⟩ := cells_of hc hp
  have hi := h5 i (by simp [names])
  obtain ⟨q1, q2⟩ := h2.alloc h4 hi.1 hi.2 hs ho t
  refine wp_val (v := .pointer (some ⟨w.heap.size, 0, none⟩)) (w' := w.alloc (.cells ws.toArray t)) ?_ (K _ _ _ (Nm.up_setA (h2.dom i hi.1).1 hi.1) q1 q2 ?_)
  ·simp [execOp, h1, Instr.box, newVar, newRow, map_one hw, hv]
  ·rw [PVR]; exact ⟨_, if_pos rfl, rfl⟩
theorem Mem.in_dm (H : Mem G F Xp dm w0 N M w) {b : Nat} {ob : Ob} (hb : M b = some ob) : dm b := Classical.byContradiction fun h => by
 have hd := H.dom b h
 have ho := H.obj b ob hb
 cases ob with
 | blk cs => obtain ⟨g, ws, q, _⟩ := ho; rw [hd.1] at q; cases q
 | row k t n es => obtain ⟨v, ess, q, _⟩ := ho; rw [(hd.2 k).2] at q; cases q
theorem part_run {T : TI} {t : TypeId} (hT : TyI P t T) {cs : List Value} {g off : Nat} (hl : cs.length = T.size) (hc : w.rangeAt g off cs) :
  ∃ v, (Instr.loadAt t (.pointer (some ⟨g, off, none⟩))).run P w = .ok v w ∧ (match T.k with | .st _ => v = .agg cs.toArray | _ => cs = [v]) := by
 obtain ⟨d, hu, hk⟩ := hT.und
 cases hkk : T.k with
 | st fs =>
  rw [hkk] at hk
  obtain ⟨fl, rfl, _⟩ := hk
  exact ⟨_, run_loadAt_mid w g off t cs _ hc hu rfl (by rw [hT.size, hl]), rfl⟩
 | _ =>
  have h1 := hT.one
  rw [hkk] at h1 hk
  have hagg : (isAgg t).run P w = .ok false w := by
   unfold isAgg
   rw [Sem.run_bind, run_underlying hu w]
   first
    | (obtain ⟨ms, rfl⟩ := hk; rfl)
    | (cases hk; rfl)
    | (obtain ⟨hk, _⟩ := hk; cases d <;> first | rfl | cases hk)
  have h2 : cs.length = 1 := by rw [hl]; exact h1
  obtain ⟨v, rfl⟩ := List.length_eq_one_iff.1 h2
  have hv := hc 0 v rfl
  exact ⟨v, by simp only [Instr.loadAt, Instr.sureAddr, loadVar, Sem.run_bind, Sem.run_pure, Result.andThen_ok, hagg]; simp [load, Sem.run, show w.cell? ⟨g, off, none⟩ = some v from hv], rfl⟩
theorem partOf_yl {T : TI} {t : TypeId} (hT : TyI P t T) {N : Nm} {h : Frag} {sub : List PV} {cs : List Value} (hs : PVRs N h sub cs) (ho : ∀ u ∈ cs, u.oneCell' = true) {v : Value} (hv : match T.k with | .st _ => v = .agg cs.toArray | _ => cs = [v]) {M : Nat → Option Ob} {x : PV} (hy : Yl P G M (partOf T sub) l l' x) : PVR N h x v ∧ l = l' := by
 unfold partOf at hy
 split at hy
 ·split at hy
  ·rename_i hk
   rw [hk] at hv
   cases hy; subst hv
   exact ⟨by rw [PVR]; exact ⟨cs, rfl, hs, ho⟩, rfl⟩
  ·rename_i hk
   have hv' : cs = [v] := by
    cases hkk : T.k with
    | st fs => exact absurd hkk (hk fs)
    | _ => rw [hkk] at hv; exact hv
   split at hy
   ·cases hy
    rw [hv'] at hs
    obtain ⟨u, hu, hp⟩ := hs.one
    cases hu
    exact ⟨hp, rfl⟩
   ·cases hy
 ·cases hy
theorem bind_yl {α β : Type} {t : Tr α} {f : α → Tr β} {M : Nat → Option Ob} : ∀ {l l' : List Nat} {y : β}, Yl P G M (t.bind f) l l' y → ∃ l1 x, Yl P G M t l l1 x ∧ Yl P G M (f x) l1 l' y := by
 induction t with
 | ret x => intro l l' y h; exact ⟨l, x, .ret, h⟩
 | fail n => intro l l' y h; cases h
 | ask p k ih =>
  intro l l' y h
  cases h with
  | ask hp h => obtain ⟨l1, x, q1, q2⟩ := ih h; exact ⟨l1, x, .ask hp q1, q2⟩
 | br c t e iht ihe =>
  intro l l' y h
  cases h with
  | brT hp h => obtain ⟨l1, x, q1, q2⟩ := iht _ h; exact ⟨l1, x, .brT hp q1, q2⟩
  | brF hp h => obtain ⟨l1, x, q1, q2⟩ := ihe _ h; exact ⟨l1, x, .brF hp q1, q2⟩
 | get es i k ih =>
  intro l l' y h
  cases h with
  | get hp hq h => obtain ⟨l1, x, q1, q2⟩ := ih _ h; exact ⟨l1, x, .get hp hq q1, q2⟩
 | run s k ih =>
  intro l l' y h
  cases h with
  | run hp hq h => obtain ⟨l1, x, q1, q2⟩ := ih _ h; exact ⟨l1, x, .run hp hq q1, q2⟩
 | call f xs H fr k ih =>
  intro l l' y h
  cases h with
  | call hp h => obtain ⟨l1, x, q1, q2⟩ := ih _ _ h; exact ⟨l1, x, .call hp q1, q2⟩
 | loop c s k ih => intro l l' y h; cases h
 | obj b k ih =>
  intro l l' y h
  cases h with
  | obj hp h => obtain ⟨l1, x, q1, q2⟩ := ih _ h; exact ⟨l1, x, .obj hp q1, q2⟩
end
end Go.Proofs.YtlmbcoecipbblaaGreatDoor
namespace Go.Proofs.YtlmbcoecipbblaaGreatDoor
open Go.RowKit
theorem partOf_len {P : Program} {G : List (Nat × List DV)} {M : Nat → Option Ob} {T : TI} {sub : List PV} {l l' : List Nat} {x : PV} (hy : Yl P G M (partOf T sub) l l' x) : sub.length = T.size := by
 unfold partOf at hy
 split at hy
 ·assumption
 ·cases hy
theorem PVRs.sub {N : Nm} {h : Frag} {cs : List PV} {ws : List Value} (hp : PVRs N h cs ws) (o n : Nat) : PVRs N h ((cs.drop o).take n) ((ws.drop o).take n) := (hp.drop o).take n
theorem sub_ones {ws : List Value} (h : ∀ u ∈ ws, u.oneCell' = true) (o n : Nat) : ∀ u ∈ (ws.drop o).take n, u.oneCell' = true := fun u hu => h u (List.mem_of_mem_drop (List.mem_of_mem_take hu))
theorem range_sub {w : World} {g o n : Nat} {ws : List Value} (hc : ∀ (j : Nat) u, ws[j]? = some u → w.cell? ⟨g, o + j, none⟩ = some u) (k : Nat) : w.rangeAt g (o + k) ((ws.drop k).take n) := fun j v hj => by
 rw [List.getElem?_take] at hj
 split at hj
 ·rw [List.getElem?_drop] at hj
  rw [Nat.add_assoc]; exact hc _ _ hj
 ·cases hj
theorem cellsAt_pvrs {N : Nm} {h : Frag} {cs : Unit → List DV} {ws : List Value} (hd : DRs h (cs ()) ws) : ∀ (n o : Nat), o + n ≤ (cs ()).length → PVRs N h (cellsAt cs o n) ((ws.drop o).take n)
 | 0, o, _ => by simp [cellsAt, PVRs]
 | n + 1, o, hle => by
  have hlen := hd.len
  have ho : o < (cs ()).length := by omega
  have hw : o < ws.length := by omega
  obtain ⟨v, hv, hp⟩ := hd.at (List.getElem?_eq_getElem ho)
  have e : (ws.drop o).take (n + 1) = v :: (ws.drop (o + 1)).take n := by
   rw [List.drop_eq_getElem_cons hw, List.take_succ_cons]
   congr 1
   rw [List.getElem?_eq_getElem hw] at hv; exact Option.some.inj hv
  rw [cellsAt, PVRs]
  refine ⟨v, _, e, ?_, cellsAt_pvrs hd n (o + 1) (by omega)⟩
  rw [PVR]
  show DR h (cellAt (cs ()) o) v
  unfold cellAt
  rw [List.getD_eq_getElem?_getD, List.getElem?_eq_getElem ho]; exact hp
section
variable {P : Program} {ti : Tb} {G : List (Nat × List DV)} {i : Nat}
theorem load_run {o : Oper} {a : Act} {w : World} {t : TypeId} {x : Operand} {v p : Value} (ho : o.op = .load t x) (hx : a.eval x = p) (h : (Instr.loadAt t p).run P w = .ok v w) : (execOp a.eval o).run P w = .ok (.value v) w := by
 simp [execOp, ho, hx, h]
theorem ept_cells {N : Nm} {h : Frag} {w : World} {cs : Unit → List DV} {o : Nat} {v : Value} (hp : PVR N h (.ept cs o) v) (hl : FLe h (frag w)) : ∃ g off ws, v = .pointer (some ⟨g, off + o, none⟩) ∧ (∀ (j : Nat) u, ws[j]? = some u → w.cell? ⟨g, off + j, none⟩ = some u) ∧ DRs h (cs ()) ws := by
 rw [PVR] at hp
 obtain ⟨g, off, cur, t, fr, ws, h1, h2, h3, h4⟩ := hp
 exact ⟨g, off, ws, h1, fun j u hu => by rw [cell_of_row w g _ cur t fr (hl _ _ h2)]; exact h3 j u hu, h4⟩
theorem ok_load {t : TypeId} {x : Operand} {T : TI} (hT : TyI P t T) {vals : List PV} : OpOk P G i (.load t x) vals (pLoad T vals) := by
 unfold pLoad
 split
 ·intro F Xp dm dm' w0 w N M o a next Q e l l' h1 h2 h3 h4 h5 hy K
  obtain ⟨v, hw, hp⟩ := h3.one
  cases hy with
  | @obj _ ob _ _ _ _ hM hy =>
   cases ob with
   | row => cases hy
   | blk cs =>
    obtain ⟨l1, y, hy1, hy2⟩ := bind_yl hy
    cases hy2
    rw [PVR] at hp
    obtain ⟨g, hg, rfl⟩ := hp
    obtain ⟨g', ws, hg', hb, hps, h1s⟩ := h2.obj _ _ hM
    rw [hg] at hg'; cases hg'
    rename_i b off
    have hlen := partOf_len hy1
    have hr : w.rangeAt g off ((ws.drop off).take T.size) := by
     have := range_sub (w := w) (g := g) (o := 0) (n := T.size) (ws := ws) (fun j u hu => by rw [Nat.zero_add]; exact hb.cell hu) off
     rwa [Nat.zero_add] at this
    obtain ⟨v, hv, hk⟩ := part_run hT (w := w) (g := g) (off := off) (cs := (ws.drop off).take T.size) (by rw [(hps.sub off T.size).len]; exact hlen) hr
    obtain ⟨hpv, _⟩ := partOf_yl hT (hps.sub off T.size) (sub_ones h1s off T.size) hk hy1
    exact wp_val (load_run h1 (map_one hw) hv) (K.stay h2 h4 rfl hpv)
 ·unfold partE
  intro F Xp dm dm' w0 w N M o a next Q e l l' h1 h2 h3 h4 h5 hy K
  obtain ⟨v, hw, hp⟩ := h3.one
  cases hy with
  | ask hle hy =>
   obtain ⟨l1, y, hy1, hy2⟩ := bind_yl hy
   cases hy2
   obtain ⟨g, off, ws, rfl, hc, hd⟩ := ept_cells hp (fragX_frag w _)
   rename_i cs oo
   have hps := cellsAt_pvrs (N := N) hd T.size oo hle
   have h1s : ∀ u ∈ (ws.drop oo).take T.size, u.oneCell' = true := sub_ones hd.ones oo T.size
   have hwl := hd.len
   obtain ⟨v, hv, hk⟩ := part_run hT (w := w) (g := g) (off := off + oo) (cs := (ws.drop oo).take T.size) (by rw [List.length_take, List.length_drop]; omega) (range_sub hc oo)
   obtain ⟨hpv, _⟩ := partOf_yl hT hps h1s hk hy1
   exact wp_val (load_run h1 (map_one hw) hv) (K.stay h2 h4 rfl hpv)
 ·unfold partE
  intro F Xp dm dm' w0 w N M o a next Q e l l' h1 h2 h3 h4 h5 hy K
  obtain ⟨v, hw, hp⟩ := h3.one
  cases hy with
  | @obj _ ob _ _ _ _ hM hy =>
   cases ob with
   | blk => cases hy
   | row k' t' n' es =>
    dsimp only at hy
    split at hy
    ·rename_i hkk
     obtain ⟨rfl, rfl⟩ := hkk
     cases hy with
     | get hp0 hge hy =>
     cases hy with
     | ask hle hy =>
      obtain ⟨l1, y, hy1, hy2⟩ := bind_yl hy
      cases hy2
      rw [PVR] at hp
      obtain ⟨g, len, cap, hV, rfl⟩ := hp
      obtain ⟨v', ess, hV', how, hds, hes⟩ := h2.obj _ _ hM
      rw [hV] at hV'; cases hV'
      rename_i r kk n ix oo el
      simp only [Int.toNat_natCast] at hge
      obtain ⟨ws, hws, hd⟩ := hds.at hge
      have hix : ix () < ess.length := (List.getElem?_eq_some_iff.1 hws).1
      have hwse : ess[ix ()] = ws := (List.getElem?_eq_some_iff.1 hws).2
      have hnn : (es ()).length = ess.length := hds.len.symm
      have hwn : ws.length = n := hes ws (hwse ▸ List.getElem_mem hix)
      have hlen' : len = (es ()).length := by
       rcases how.2 with ⟨e, _⟩ | ⟨g', cap', cur, e, _⟩
       ·cases e
       ·cases e; rfl
      subst hlen'
      have hc : ∀ (j : Nat) u, ws[j]? = some u → w.cell? ⟨g, ix () * n + j, none⟩ = some u := fun j u hu => by
       have hj : j < n := by rw [← hwn]; exact (List.getElem?_eq_some_iff.1 hu).1
       have hlt : ix () * n + j < (es ()).length * n := by
        have : (ix () + 1) * n ≤ ess.length * n := Nat.mul_le_mul_right _ hix
        rw [Nat.succ_mul] at this; rw [hnn]; omega
       rw [how.cellAt _ hlt, flatten_at (ix ()) j hes hix hj, hwse, hu]
      have hps := cellsAt_pvrs (N := N) (cs := fun _ => el) hd T.size oo hle
      have hwl := hd.len
      have hle' : oo + T.size ≤ el.length := hle
      have h1s : ∀ u ∈ (ws.drop oo).take T.size, u.oneCell' = true := sub_ones hd.ones oo T.size
      obtain ⟨v, hv, hk⟩ := part_run hT (w := w) (g := g) (off := ix () * n + oo) (cs := (ws.drop oo).take T.size) (by rw [List.length_take, List.length_drop]; omega) (range_sub hc oo)
      obtain ⟨hpv, _⟩ := partOf_yl hT hps h1s hk hy1
      exact wp_val (load_run h1 (map_one hw) hv) (K.stay h2 h4 rfl hpv)
    ·cases hy
 ·exact ok_fail
theorem PVRs.patch {N : Nm} {h : Frag} {cs vs : List PV} {ws us : List Value} (h1 : PVRs N h cs ws) (h2 : PVRs N h vs us) (o : Nat) : PVRs N h (patchP cs o vs) (Go.Proofs.YtlmbcoecipbblaaGreatDoor.patch ws o us) := by
 unfold patchP Go.Proofs.YtlmbcoecipbblaaGreatDoor.patch
 rw [← h2.len]
 exact (h1.take o).app (h2.app (h1.drop _))
theorem patch_ones {ws us : List Value} (h1 : ∀ u ∈ ws, u.oneCell' = true) (h2 : ∀ u ∈ us, u.oneCell' = true) (o : Nat) : ∀ u ∈ patch ws o us, u.oneCell' = true := fun u hu => by
 unfold patch at hu
 rcases List.mem_append.1 hu with hu | hu
 ·exact h1 u (List.mem_of_mem_take hu)
 ·rcases List.mem_append.1 hu with hu | hu
  ·exact h2 u hu
  ·exact h1 u (List.mem_of_mem_drop hu)
theorem allD_pv : ∀ {vs : List PV} {l : List (Unit → DV)}, allD vs = some l → vs = l.map .d
 | [], l, h => by cases h; rfl
 | p :: r, l, h => by
  unfold allD at h
  split at h
  ·rename_i x l' hx hl
   cases h
   cases p <;> cases hx
   rw [List.map_cons, allD_pv hl]
  ·cases h
theorem DRs.patch {h : Frag} {cs vs : List DV} {ws us : List Value} (h1 : DRs h cs ws) (h2 : DRs h vs us) (o : Nat) : DRs h (patchD cs o vs) (Go.Proofs.YtlmbcoecipbblaaGreatDoor.patch ws o us) := by
 unfold patchD Go.Proofs.YtlmbcoecipbblaaGreatDoor.patch
 have t : ∀ (n : Nat) {a : List DV} {b : List Value}, DRs h a b → DRs h (a.take n) (b.take n) := fun n => by
  induction n with
  | zero => intro a b _; simp [DRs]
  | succ n ih => intro a b hx; cases a with
   | nil => rw [DRs] at hx; rw [hx]; simp [DRs]
   | cons c r => rw [DRs] at hx; obtain ⟨v, vs, rfl, h2, h3⟩ := hx; rw [List.take_succ_cons, List.take_succ_cons, DRs]; exact ⟨v, _, rfl, h2, ih h3⟩
 have q : ∀ (n : Nat) {a : List DV} {b : List Value}, DRs h a b → DRs h (a.drop n) (b.drop n) := fun n => by
  induction n with
  | zero => intro a b hx; exact hx
  | succ n ih => intro a b hx; cases a with
   | nil => rw [DRs] at hx; rw [hx]; simp [DRs]
   | cons c r => rw [DRs] at hx; obtain ⟨v, vs, rfl, h2, h3⟩ := hx; exact ih h3
 have app : ∀ {a b : List DV} {x y : List Value}, DRs h a x → DRs h b y → DRs h (a ++ b) (x ++ y) := fun {a} => by
  induction a with
  | nil => intro b x y hx hy; rw [DRs] at hx; rw [hx]; exact hy
  | cons c r ih => intro b x y hx hy; rw [DRs] at hx; obtain ⟨v, vs, rfl, h2, h3⟩ := hx; rw [List.cons_append, List.cons_append, DRs]; exact ⟨v, _, rfl, h2, ih h3 hy⟩
 rw [h2.len]
 exact app (t o h1) (app h2 (q _ h1))
theorem DRss.set {h : Frag} {e' : List DV} {v' : List Value} (hv : DRs h e' v') : ∀ {cs : List (List DV)} {ws : List (List Value)} (i : Nat), DRss h cs ws → DRss h (cs.set i e') (ws.set i v')
 | [], ws, i, hx => by rw [DRss] at hx; rw [hx]; simp [DRss]
 | c :: r, ws, 0, hx => by
  rw [DRss] at hx; obtain ⟨v, vs, rfl, h2, h3⟩ := hx
  rw [List.set_cons_zero, List.set_cons_zero, DRss]; exact ⟨v', vs, rfl, hv, h3⟩
 | c :: r, ws, i + 1, hx => by
  rw [DRss] at hx; obtain ⟨v, vs, rfl, h2, h3⟩ := hx
  rw [List.set_cons_succ, List.set_cons_succ, DRss]; exact ⟨v, _, rfl, h2, DRss.set hv i h3⟩
theorem flatten_set {n o : Nat} {vs : List Value} : ∀ (ess : List (List Value)) (i : Nat) (e : List Value), (∀ e ∈ ess, e.length = n) → ess[i]? = some e → o + vs.length ≤ n → (ess.set i (patch e o vs)).flatten = patch ess.flatten (i * n + o) vs
 | a :: r, 0, e, hs, he, hle => by
  cases he
  have ha := hs a (List.mem_cons_self ..)
  rw [List.set_cons_zero, List.flatten_cons, List.flatten_cons, Nat.zero_mul, Nat.zero_add]
  unfold patch
  rw [List.take_append_of_le_length (by omega), List.drop_append_of_le_length (by omega)]
  simp only [List.append_assoc]
 | a :: r, i + 1, e, hs, he, hle => by
  have ha := hs a (List.mem_cons_self ..)
  rw [List.set_cons_succ, List.flatten_cons, List.flatten_cons, flatten_set r i e (fun x hx => hs x (List.mem_cons_of_mem _ hx)) (by simpa using he) hle]
  unfold patch
  have e1 : (i + 1) * n + o = a.length + (i * n + o) := by rw [ha, Nat.succ_mul]; omega
  rw [e1, List.take_length_add_append, show a.length + (i * n + o) + vs.length = a.length + (i * n + o + vs.length) by omega, List.drop_length_add_append]
  simp only [List.append_assoc]
theorem undef_tup {N : Nm} {h : Frag} : PVR N h (.tup []) undef := by rw [PVR]; exact ⟨[], rfl, by rw [PVRs]⟩
theorem ok_store {t : TypeId} {x y : Operand} {T : TI} (hT : TyI P t T) {vals : List PV} : OpOk P G i (.store t x y) vals (pStore T vals) := by
 unfold pStore
 split
 ·rename_i b off px
  intro F Xp dm dm' w0 w N M o a next Q e l l' h1 h2 h3 h4 h5 hy K
  obtain ⟨p, u, hw, hp, hu⟩ := h3.two
  have hw1 : a.eval x = p ∧ a.eval y = u := by simpa [Op.operands] using hw
  cases hy with
  | @obj _ ob _ _ _ _ hM hy =>
   cases ob with
   | row => cases hy
   | blk cs =>
    dsimp only [ofOpt] at hy
    split at hy
    ·rename_i vs hc
     split at hy
     ·rename_i hle
      cases hy
      rw [PVR] at hp
      obtain ⟨g, hg, rfl⟩ := hp
      obtain ⟨g', ws, hg', hb, hps, h1s⟩ := h2.obj _ _ hM
      rw [hg] at hg'; cases hg'
      obtain ⟨us, hus, hpu, h1u⟩ := cells_of hc hu
      have hle' : off + us.length ≤ ws.length := by rw [hpu.len, hps.len]; exact hle.2
      have hrun := run_storeVar_blk (P := P) w g off t u us ws hus hb (by rw [hT.size, hpu.len, hle.1]) hle' h1u
      obtain ⟨q1, q2⟩ := h2.store h4 hM hg (hb.set (patch ws off us)) (setRow_grown _) (hps.patch hpu off) (patch_ones h1s h1u off)
      have := K undef _ N (Nm.up.refl dm N) q1 q2 undef_tup
      unfold Oper.wp execOp
      simp only [h1, hw1.1, hw1.2, Instr.storeAt, Instr.sureAddr, Sem.run_bind, Sem.run_pure, Result.andThen_ok, hrun]
      exact this
     ·cases hy
    ·cases hy
 ·rename_i r k n ix off px
  intro F Xp dm dm' w0 w N M o a next Q e l l' h1 h2 h3 h4 h5 hy K
  obtain ⟨p, u, hw, hp, hu⟩ := h3.two
  have hw1 : a.eval x = p ∧ a.eval y = u := by simpa [Op.operands] using hw
  cases hy with
  | @obj _ ob _ _ _ _ hM hy =>
   cases ob with
   | blk => cases hy
   | row k' t' n' es =>
    dsimp only [ofOpt] at hy
    split at hy
    ·rename_i hkk
     obtain ⟨rfl, rfl⟩ := hkk
     split at hy
     ·rename_i vs hc
      split at hy
      ·rename_i ds hds
       split at hy
       ·rename_i hle
        cases hy with
        | @get _ _ _ e0 _ _ _ h0 he hy =>
        cases hy
        rw [PVR] at hp
        obtain ⟨g, len, cap, hV, rfl⟩ := hp
        obtain ⟨v', ess, hV', how, hrs, hes⟩ := h2.obj _ _ hM
        rw [hV] at hV'; cases hV'
        obtain ⟨us, hus, hpu, h1u⟩ := cells_of hc hu
        rw [allD_pv hds] at hpu
        have hdu := PVRs.to_ds hpu
        obtain ⟨w1, q1, q2⟩ := hrs.at he
        have e1 : ((ix () : Int)).toNat = ix () := rfl
        have hlen : us.length = vs.length := by rw [hpu.len, allD_pv hds]
        have hl1 : ess.length = (es ()).length := hrs.len
        have hix : ix () < ess.length := (List.getElem?_eq_some_iff.1 q1).1
        have hfl := flatten_len hes
        have hle2 : ix () * n + off + us.length ≤ ess.flatten.length := by
         have : (ix () + 1) * n ≤ ess.length * n := Nat.mul_le_mul_right _ hix
         rw [Nat.succ_mul] at this
         rw [hfl, hlen]; omega
        have hN : (es ()).length = len := by
         rcases how.2 with ⟨e2, _⟩ | ⟨g2, cap2, cur2, e2, _⟩ <;> cases e2; rfl
        rw [hN] at how
        obtain ⟨cs, hb, hbl, how2⟩ := own_blk how hle2
        have hrun := run_storeVar_blk (P := P) w g (ix () * n + off) t u us cs hus hb (by rw [hT.size, hlen, hle.1]) hbl h1u
        have how3 : (w.setRow g (patch cs (ix () * n + off) us).toArray).ownsRow 0 t' n (.slice (some ⟨g, 0, none⟩) len cap) ((es ()).set (ix ()) (patchD e0 off (ds.map fun x => x ()))).length (ess.set (ix ()) (patch w1 off us)).flatten := by
         rw [List.length_set, hN, flatten_set ess (ix ()) w1 hes q1 (by rw [hlen]; exact hle.2)]; exact how2
        obtain ⟨q3, q4⟩ := h2.rowSet h4 (es := fun _ => (es ()).set (ix ()) (patchD e0 off (ds.map fun x => x ()))) hM hV rfl (setRow_grown _) how3 (hrs.set (q2.patch hdu off) (ix ())) (fun e he2 => by
         rcases List.mem_or_eq_of_mem_set he2 with he2 | rfl
         ·exact hes e he2
         ·have hw1l := hes w1 (List.mem_of_getElem? q1)
          rw [patch_len (by rw [hlen, hw1l]; exact hle.2)]; exact hw1l)
        have := K undef _ N (Nm.up.refl dm N) q3 q4 undef_tup
        unfold Oper.wp execOp
        simp only [h1, hw1.1, hw1.2, Instr.storeAt, Instr.sureAddr, Sem.run_bind, Sem.run_pure, Result.andThen_ok, hrun]
        exact this
       ·cases hy
      ·cases hy
     ·cases hy
    ·cases hy
 ·exact ok_fail
theorem ok_nil {x : Operand} {vals : List PV} : OpOk P G i (.nilCheck x) vals (pNil vals) := by
 have run : ∀ {o : Oper} {a : Act} {w : World} {v : Value}, o.op = .nilCheck x → a.eval x = v → (∃ p, v = .pointer (some p)) ∨ (∃ f xs ys, v = .func (.func f) xs ys) → (execOp a.eval o).run P w = .ok (.value v) w := fun {o a w v} ho hx hv => by
  rcases hv with ⟨p, rfl⟩ | ⟨f, xs, ys, rfl⟩ <;> simp [execOp, ho, hx]
 unfold pNil
 split
 ·refine ok_val fun o a N hh w ho hl hv => ?_
  obtain ⟨v, hw, hp⟩ := hv.one
  refine ⟨v, run ho (map_one hw) (.inl ?_), hp⟩
  rw [PVR] at hp; obtain ⟨g, _, rfl⟩ := hp; exact ⟨_, rfl⟩
 ·refine ok_val fun o a N hh w ho hl hv => ?_
  obtain ⟨v, hw, hp⟩ := hv.one
  refine ⟨v, run ho (map_one hw) (.inl ?_), hp⟩
  rw [PVR] at hp; obtain ⟨g, off, cur, t, fr, ws, rfl, _⟩ := hp; exact ⟨_, rfl⟩
 ·refine ok_val fun o a N hh w ho hl hv => ?_
  obtain ⟨v, hw, hp⟩ := hv.one
  refine ⟨v, run ho (map_one hw) (.inl ?_), hp⟩
  rw [PVR] at hp; obtain ⟨g, l, c, _, rfl⟩ := hp; exact ⟨_, rfl⟩
 ·refine ok_val fun o a N hh w ho hl hv => ?_
  obtain ⟨v, hw, hp⟩ := hv.one
  refine ⟨v, run ho (map_one hw) (.inr ?_), hp⟩
  rw [PVR] at hp; obtain ⟨vs, ws, rfl, _⟩ := hp; exact ⟨_, _, _, rfl⟩
 ·refine ok_ask fun hP => ok_val fun o a N hh w ho hl hv => ?_
  obtain ⟨v, hw, hp⟩ := hv.one
  obtain ⟨cs, hcs⟩ := hP
  rw [PVR, hcs, DR] at hp
  obtain ⟨g, ws, t, fr, rfl, q2, q3⟩ := hp
  refine ⟨_, run ho (map_one hw) (.inl ⟨_, rfl⟩), ?_⟩
  rw [PVR]
  refine ⟨g, 0, ws, t, fr, ws.toList, rfl, q2, fun j u hu => by rw [Nat.zero_add]; simpa using hu, ?_⟩
  show DRs hh (DV.ps _) _
  rw [hcs]; exact q3
 ·exact ok_fail
theorem field_of {t : TypeId} {T : TI} (hT : TyI P t T) {fs : List (Nat × Nat)} (hk : T.k = .st fs) {j off u : Nat} (hj : fs[j]? = some (off, u)) : ∃ (l : Array Field) (f : Field), P.underlying t = some (.struct l) ∧ l[j]? = some f ∧ f.offset = off ∧ f.type = u := by
 obtain ⟨d, hu, hd⟩ := hT.und
 rw [hk] at hd
 obtain ⟨l, rfl, hl⟩ := hd
 rw [← hl, List.getElem?_map] at hj
 obtain ⟨f, hf, e⟩ := Option.map_eq_some_iff.1 hj
 rw [Array.getElem?_toList] at hf
 cases e
 exact ⟨l, f, hu, hf, rfl, rfl⟩
theorem ok_fieldAddr {t : TypeId} {x : Operand} {T U : TI} {j off u : Nat} {fs : List (Nat × Nat)} (hT : TyI P t T) (hk : T.k = .st fs) (hj : fs[j]? = some (off, u)) (hU : TyI P u U) (h0 : ¬ U.size = 0) {vals : List PV} : OpOk P G i (.fieldAddr t x j) vals (pFieldAddr off vals) := by
 have run : ∀ {o : Oper} {a : Act} {w : World} {g k : Nat}, o.op = .fieldAddr t x j → a.eval x = .pointer (some ⟨g, k, none⟩) → (execOp a.eval o).run P w = .ok (.value (.pointer (some ⟨g, k + off, none⟩))) w := fun {o a w g k} ho hx => by
  obtain ⟨l, f, q1, q2, rfl, rfl⟩ := field_of hT hk hj
  simp [execOp, ho, hx, Instr.fieldAt, run_underlying q1, q2, Instr.sureAddr, fieldPlace, hU.sizeOf, h0, Addr.add_none]
 unfold pFieldAddr
 split
 ·refine ok_val fun o a N hh w ho hl hv => ?_
  obtain ⟨v, hw, hp⟩ := hv.one
  rw [PVR] at hp; obtain ⟨g, hg, rfl⟩ := hp
  exact ⟨_, run ho (map_one hw), by rw [PVR]; exact ⟨g, hg, rfl⟩⟩
 ·refine ok_val fun o a N hh w ho hl hv => ?_
  obtain ⟨v, hw, hp⟩ := hv.one
  rw [PVR] at hp; obtain ⟨g, o', cur, t, fr, ws, rfl, h2⟩ := hp
  exact ⟨_, run ho (map_one hw), by rw [PVR]; exact ⟨g, o', cur, t, fr, ws, by rw [Nat.add_assoc], h2⟩⟩
 ·refine ok_val fun o a N hh w ho hl hv => ?_
  obtain ⟨v, hw, hp⟩ := hv.one
  rw [PVR] at hp; obtain ⟨g, l, c, h2, rfl⟩ := hp
  exact ⟨_, run ho (map_one hw), by rw [PVR]; exact ⟨g, l, c, h2, by rw [Nat.add_assoc]⟩⟩
 ·exact ok_fail
end
end Go.Proofs.YtlmbcoecipbblaaGreatDoor
namespace Go.Proofs.YtlmbcoecipbblaaGreatDoor
open Go.RowKit
theorem ba_ext {a b : ByteArray} (h : a.toList = b.toList) : a = b := by
 rw [Lib.toList_data, Lib.toList_data] at h
 cases a; cases b
 congr 1
 exact Array.toList_inj.1 h
theorem ba_beq (a b : ByteArray) : (a.toList == b.toList) = decide (a = b) := by
 by_cases h : a = b
 ·subst h; simp
 ·rw [decide_eq_false h]
  simp only [beq_eq_false_iff_ne]
  exact fun e => h (ba_ext e)
section
variable {P : Program} {ti : Tb} {G : List (Nat × List DV)} {i : Nat}
theorem agg_run {T : TI} {t : TypeId} (hT : TyI P t T) (w : World) : (isAgg t).run P w = .ok (match T.k with | .st _ => true | _ => false) w := by
 obtain ⟨d, hu, hk⟩ := hT.und
 unfold isAgg
 rw [Sem.run_bind, run_underlying hu w]
 cases hkk : T.k <;> rw [hkk] at hk <;> first
  | (obtain ⟨fl, rfl, _⟩ := hk; rfl)
  | (obtain ⟨ms, rfl⟩ := hk; rfl)
  | (cases hk; rfl)
  | (obtain ⟨hk, _⟩ := hk; cases d <;> first | rfl | cases hk)
theorem part_val {T : TI} {t : TypeId} (hT : TyI P t T) {ws : List Value} {off : Nat} (w : World) (hl : ((ws.drop off).take T.size).length = T.size) :
  ∃ v, (part t ws.toArray off).run P w = .ok v w ∧ (match T.k with | .st _ => v = .agg ((ws.drop off).take T.size).toArray | _ => (ws.drop off).take T.size = [v]) := by
 unfold part
 rw [Sem.run_bind, agg_run hT]
 cases hkk : T.k with
 | st fs =>
  refine ⟨_, ?_, rfl⟩
  simp [hT.sizeOf, Nat.add_sub_cancel_left]
 | _ =>
  have h1 := hT.one
  rw [hkk] at h1
  rw [h1] at hl ⊢
  obtain ⟨v, hv⟩ := List.length_eq_one_iff.1 hl
  have hc : ws[off]? = some v := by
   have : ((ws.drop off).take 1)[0]? = some v := by rw [hv]; rfl
   rw [List.getElem?_take, if_pos (by decide), List.getElem?_drop, Nat.add_zero] at this; exact this
  exact ⟨v, by simp [hc], hv⟩
theorem ok_field {t : TypeId} {x : Operand} {T U : TI} {j off u : Nat} {fs : List (Nat × Nat)} (hT : TyI P t T) (hk : T.k = .st fs) (hj : fs[j]? = some (off, u)) (hU : TyI P u U) {vals : List PV} : OpOk P G i (.field t x j) vals (pField off U vals) := by
 unfold pField
 split
 ·rename_i cs
  intro F Xp dm dm' w0 w N M o a next Q e l l' h1 h2 h3 h4 h5 hy K
  obtain ⟨v, hw, hp⟩ := h3.one
  obtain ⟨l1, y, hy1, hy2⟩ := bind_yl hy
  cases hy2
  rw [PVR] at hp
  obtain ⟨ws, rfl, hps, h1s⟩ := hp
  have hlen := partOf_len hy1
  obtain ⟨lf, f, q1, q2, q3, q4⟩ := field_of hT hk hj
  obtain ⟨v, hv, hkv⟩ := part_val hU (ws := ws) (off := off) w (by rw [(hps.sub off U.size).len]; exact hlen)
  obtain ⟨hpv, _⟩ := partOf_yl hU (hps.sub off U.size) (sub_ones h1s off U.size) hkv hy1
  refine wp_val ?_ (K.stay h2 h4 rfl hpv)
  subst q3 q4
  simp [execOp, h1, map_one hw, Instr.field, run_underlying q1, q2, asAgg, hv]
 ·exact ok_fail
theorem elem_of {t e : TypeId} {T : TI} (hT : TyI P t T) (hk : T.k = .sl e) : P.underlying t = some (.slice e) ∧ P.elem t = e := by
 obtain ⟨d, hu, hd⟩ := hT.und
 rw [hk] at hd
 have hd' : d = .slice e := hd
 subst hd'
 exact ⟨hu, by simp [Program.elem, hu]⟩
theorem ok_indexAddr {t e : TypeId} {x y : Operand} {T E : TI} (hT : TyI P t T) (hk : T.k = .sl e) (hE : TyI P e E) (h0 : ¬ E.size = 0) {vals : List PV} : OpOk P G i (.indexAddr t x y) vals (pIndexAddr E vals) := by
 obtain ⟨hu, he⟩ := elem_of hT hk
 have run : ∀ {o : Oper} {a : Act} {w : World} {g off len cap : Nat} {k : IntKind} {n : Int}, o.op = .indexAddr t x y → a.eval x = .slice (some ⟨g, off, none⟩) len cap → a.eval y = .int k n → 0 ≤ n → n < len →
   (execOp a.eval o).run P w = .ok (.value (.pointer (some ⟨g, off + n.toNat * E.size, none⟩))) w := fun {o a w g off len cap k n} ho hx hy' h1 h2 => by
  simp only [execOp, ho, hx, hy', Sem.run_bind]
  rw [run_indexAt_slice (h := by rw [he]; exact hu), if_pos ⟨h1, h2⟩, he, hE.sizeOf]
  simp [Addr.add_none]
 unfold pIndexAddr
 split
 ·rename_i xx jj
  refine ok_ask fun hS => ok_ask fun hI => ok_get fun el hp0 hge => ok_ask fun hle => ok_val fun o a N hh w ho hl hv => ?_
  obtain ⟨u, v, hw, hx, hj⟩ := hv.two
  have hw1 : a.eval x = u ∧ a.eval y = v := by simpa [Op.operands] using hw
  obtain ⟨k, n, rfl, hn⟩ := hj.dInt hI
  obtain ⟨es, hes⟩ := hS
  rw [PVR, hes, DR] at hx
  obtain ⟨s, ess, ⟨ad, cap, rfl, hc1, hc2, hc3, hrow, hsz⟩, hds⟩ := hx
  rw [hes] at hge
  have hge' : es[n.toNat]? = some el := by rw [← hn]; exact hge
  obtain ⟨ws, hws, hd⟩ := hds.at hge'
  have hix : n.toNat < ess.length := (List.getElem?_eq_some_iff.1 hws).1
  have hwse : ess[n.toNat] = ws := (List.getElem?_eq_some_iff.1 hws).2
  have hle' : el.length = E.size := hle
  have hws1 : ws.length = s := hsz ws (hwse ▸ List.getElem_mem hix)
  have hs : s = E.size := by rw [← hws1, hd.len, hle']
  subst hs
  have hn0 : 0 ≤ n := by rw [← hn]; exact hp0
  have hfl := flatten_len hsz
  rcases hrow with hnil | ⟨b, off, cur, t', fr, rfl, hb, hcc⟩
  ·exfalso
   rw [hnil] at hfl
   have : ess.length * E.size = 0 := by simpa using hfl.symm
   rcases Nat.mul_eq_zero.1 this with h | h <;> omega
  ·refine ⟨_, run ho hw1.1 hw1.2 hn0 (by omega), ?_⟩
   rw [PVR]
   refine ⟨b, off + n.toNat * E.size, cur, t', fr, ws, rfl, hb, fun j u hu => ?_, hd⟩
   have hj : j < E.size := by rw [← hws1]; exact (List.getElem?_eq_some_iff.1 hu).1
   have hlt : n.toNat * E.size + j < ess.length * E.size := by
    have : (n.toNat + 1) * E.size ≤ ess.length * E.size := Nat.mul_le_mul_right _ hix
    rw [Nat.succ_mul] at this; omega
   rw [Nat.add_assoc, hcc _ (by rw [hfl]; exact hlt), flatten_at n.toNat j hsz hix hj, hwse, hu]
 ·rename_i r kk jj
  intro F Xp dm dm' w0 w N M o a next Q e' l l' h1 h2 h3 h4 h5 hy K
  obtain ⟨u, v, hw, hx, hj⟩ := h3.two
  have hw1 : a.eval x = u ∧ a.eval y = v := by simpa [Op.operands] using hw
  cases hy with
  | @obj _ ob _ _ _ _ hM hy =>
   cases ob with
   | blk => cases hy
   | row k' t' n' es =>
    dsimp only at hy
    split at hy
    ·rename_i hkk
     obtain ⟨rfl, rfl⟩ := hkk
     cases hy with
     | ask hI hy =>
     cases hy with
     | ask hle hy =>
     cases hy
     obtain ⟨k, n, rfl, hn⟩ := hj.dInt hI
     rw [PVR] at hx
     obtain ⟨v', ess, hV', how, hds, hes⟩ := h2.obj _ _ hM
     rw [hx.1] at hV'; cases hV'
     have hle0 : 0 ≤ n ∧ n < (es ()).length := by rw [← hn]; exact hle
     rcases how.2 with ⟨rfl, e0⟩ | ⟨g, cap, cur, rfl, _⟩
     ·omega
     ·have hr := run (w := w) h1 hw1.1 hw1.2 hle0.1 hle0.2
      refine wp_val hr (K.stay h2 h4 rfl ?_)
      rw [val, PVR]
      refine ⟨g, _, cap, hx.1, ?_⟩
      rw [hn, Nat.zero_add, Nat.add_zero]
    ·cases hy
 ·exact ok_fail
theorem bin_run {op : BinOp} {t : TypeId} {x y : Operand} {u v z : Value} {T : TI} (hT : TyI P t T) (h : bopV (kindB T.k x y) op u v = some z) (w : World) :
  (do eqGuard op t x y u v; binOp op t u v : Sem Value).run P w = .ok z w ∧ litB z = true := by
 obtain ⟨d, hu, hk⟩ := hT.und
 have hbool : kindB T.k x y = .bool → P.underlying t = some .bool := fun e => by
  cases hkk : T.k <;> rw [hkk] at hk e <;> first
   | (cases hk; exact hu)
   | (unfold kindB at e; simp only at e; split at e <;> cases e)
   | (cases e)
 have hifc : kindB T.k x y = .ifc → P.underlying t = some (.interface (P.methodsAt t)) ∧ (isC x = true ∨ isC y = true) := fun e => by
  cases hkk : T.k <;> rw [hkk] at hk e <;> first
   | (obtain ⟨ms, rfl⟩ := hk
      refine ⟨by simp [Program.methodsAt, hu], ?_⟩
      unfold kindB at e; simp only at e; split at e
      ·rename_i hc; simpa using hc
      ·cases e)
   | (cases e)
 generalize kindB T.k x y = tk at *
 unfold bopV at h
 split at h
 ·split at h
  ·rename_i hkk
   subst hkk
   cases op <;> simp at h <;> subst h <;> simp [eqGuard, binOp, Op.intArith, Op.intCmp, litB, Value.oneCell', bne, show ∀ a b : Int, (a == b) = decide (a = b) from fun _ _ => rfl]
  ·cases h
 ·cases op <;> simp at h <;> first
   | (subst h; simp [eqGuard, binOp, Op.stringOp, ba_beq, litB, Value.oneCell']; done)
   | (obtain ⟨hle, rfl⟩ := h
      rename_i a b
      have h2 : ¬ ((a.size + b.size : Nat) : Int) > IntKind.i64.max := by
        have : IntKind.i64.max = 9223372036854775807 := rfl
        omega
      refine ⟨?_, ?_⟩
      ·simp only [eqGuard, binOp, Op.stringOp, if_neg h2]; rfl
      ·unfold litB; rw [Bool.and_eq_true]; exact ⟨rfl, decide_eq_true (by simp [ByteArray.size_append, maxLen]; omega)⟩)
 ·cases op <;> cases tk <;> simp at h <;> subst h <;> simp [eqGuard, run_eql_bool (h := hbool rfl), run_neq_bool (h := hbool rfl), litB, Value.oneCell']
 ·cases op <;> cases tk <;> simp at h <;> subst h <;> simp [eqGuard, run_eql_held_nil (h := (hifc rfl).1), run_neq_held_nil (h := (hifc rfl).1), litB, Value.oneCell']
 ·cases op <;> cases tk <;> simp at h <;> subst h <;> (
   have hc := (hifc rfl).2
   cases x <;> cases y <;> simp [isC] at hc <;> simp [eqGuard, run_eql_nil_nil (h := (hifc rfl).1), run_neq_nil_nil (h := (hifc rfl).1), litB, Value.oneCell'])
 ·cases h
theorem ok_bin {op : BinOp} {t t' : TypeId} {x y : Operand} {T : TI} (hT : TyI P t T) {vals : List PV} : OpOk P G i (.binOp op t x y t') vals (pBin (kindB T.k x y) op vals) := by
 have exec : ∀ {o : Oper} {a : Act} {w : World} {u v z : Value}, o.op = .binOp op t x y t' → a.eval x = u → a.eval y = v → (do eqGuard op t x y u v; binOp op t u v : Sem Value).run P w = .ok z w → (execOp a.eval o).run P w = .ok (.value z) w := fun {o a w u v z} ho hx hy h => by
  simp only [execOp, ho, hx, hy]
  rw [Sem.run_bind, h]; rfl
 have hnil : ∀ {u : Value} {tt : TypeId} (w : World), kindB T.k x y = .ifc → ((do eqGuard .eql t x y (.iface tt u) .nilIface; binOp .eql t (.iface tt u) .nilIface : Sem Value).run P w = .ok (.bool false) w ∧ (do eqGuard .neq t x y (.iface tt u) .nilIface; binOp .neq t (.iface tt u) .nilIface : Sem Value).run P w = .ok (.bool true) w) := fun {u tt} w hk =>
  ⟨(bin_run (x := x) (y := y) (op := .eql) (u := .iface tt u) (v := .nilIface) (z := .bool false) hT (by rw [hk]; rfl) w).1, (bin_run (x := x) (y := y) (op := .neq) (u := .iface tt u) (v := .nilIface) (z := .bool true) hT (by rw [hk]; rfl) w).1⟩
 unfold pBin
 split
 ·rename_i xx yy
  refine ok_ask fun hb => ok_val fun o a N hh w ho hl hv => ?_
  obtain ⟨u, v, hw, hx, hy⟩ := hv.two
  have hw1 : a.eval x = u ∧ a.eval y = v := by simpa [Op.operands] using hw
  obtain ⟨z, hz⟩ := hb
  rw [PVR] at hx hy
  show ∃ v, _ ∧ PVR N hh (.d fun _ => getD' (bopD (kindB T.k x y) op (xx ()) (yy ()))) v
  rw [hz]
  unfold bopD at hz
  split at hz
  ·rename_i p q e1 e2
   obtain ⟨r, hr, rfl⟩ := Option.map_eq_some_iff.1 hz
   rw [e1, DR] at hx; rw [e2, DR] at hy
   obtain ⟨rfl, _⟩ := hx; obtain ⟨rfl, _⟩ := hy
   obtain ⟨q1, q2⟩ := bin_run (x := x) (y := y) hT hr w
   exact ⟨r, exec ho hw1.1 hw1.2 q1, by rw [PVR]; exact ⟨rfl, q2⟩⟩
  ·rename_i tt dd e1 e2
   rw [e1, DR] at hx; rw [e2, DR] at hy
   obtain ⟨u', rfl, _⟩ := hx; obtain ⟨rfl, _⟩ := hy
   split at hz
   ·rename_i hk
    cases hz
    exact ⟨_, exec ho hw1.1 hw1.2 (hnil w hk).1, by rw [PVR]; exact ⟨rfl, rfl⟩⟩
   ·rename_i hk
    cases hz
    exact ⟨_, exec ho hw1.1 hw1.2 (hnil w hk).2, by rw [PVR]; exact ⟨rfl, rfl⟩⟩
   ·cases hz
  ·cases hz
 ·rename_i tt pp yy
  refine ok_ask fun hb => ?_
  split
  ·rename_i hk
   refine ok_val fun o a N hh w ho hl hv => ?_
   obtain ⟨u, v, hw, hx, hy⟩ := hv.two
   have hw1 : a.eval x = u ∧ a.eval y = v := by simpa [Op.operands] using hw
   rw [PVR] at hx
   obtain ⟨u', rfl, _⟩ := hx
   obtain rfl := hy.dLit hb
   exact ⟨_, exec ho hw1.1 hw1.2 (hnil w hk).1, by rw [PVR]; exact ⟨rfl, rfl⟩⟩
  ·rename_i hk
   refine ok_val fun o a N hh w ho hl hv => ?_
   obtain ⟨u, v, hw, hx, hy⟩ := hv.two
   have hw1 : a.eval x = u ∧ a.eval y = v := by simpa [Op.operands] using hw
   rw [PVR] at hx
   obtain ⟨u', rfl, _⟩ := hx
   obtain rfl := hy.dLit hb
   exact ⟨_, exec ho hw1.1 hw1.2 (hnil w hk).2, by rw [PVR]; exact ⟨rfl, rfl⟩⟩
  ·exact ok_fail
 ·exact ok_fail
theorem allD_of {N : Nm} {h : Frag} : ∀ {vals : List PV} {l : List (Unit → DV)} {us : List Value}, allD vals = some l → (∀ x ∈ l, IsL (x ())) → PVRs N h vals us → us = l.map (fun x => (x ()).vl)
 | [], l, us, hl, _, hv => by cases hl; rw [PVRs] at hv; rw [hv]; rfl
 | p :: r, l, us, hl, hL, hv => by
  obtain ⟨u, us', rfl, hp, hr⟩ := hv.cons
  unfold allD at hl
  split at hl
  ·rename_i x l' hx hl'
   cases hl
   cases p <;> cases hx
   rw [List.map_cons, ← allD_of hl' (fun y hy => hL y (List.mem_cons_of_mem _ hy)) hr]
   congr 1
   obtain ⟨v, e⟩ := hL x (List.mem_cons_self ..)
   rw [hp.dLit e, e]; rfl
  ·cases hl
theorem ok_run {op : Op} {vals : List PV} {s : List Value → Sem Value} (hs : ∀ (o : Oper) (a : Act) (us : List Value), o.op = op → op.operands.toList.map a.eval = us → us.length = op.operands.size → ∀ w, (execOp a.eval o).run P w = ((s us).run P w).andThen fun v w' => .ok (.value v) w') : OpOk P G i op vals (pRunL s vals) := by
 refine ok_opt fun l hl => ok_ask fun hL => ?_
 intro F Xp dm dm' w0 w N M o a next Q e l1 l1' h1 h2 h3 h4 h5 hy K
 cases hy with
 | run hv1 hr hy =>
  cases hy
  have hus := allD_of hl hL h3
  refine wp_val ?_ (K.stay h2 h4 rfl (PVR.lit rfl hv1))
  rw [hs o a _ h1 rfl (by simp) w, hus, hr w]; rfl
theorem ok_unOp {op : UnOp} {t : TypeId} {x : Operand} {vals : List PV} : OpOk P G i (.unOp op t x) vals (pRunL (fun l => Op.unary op (l.getD 0 .nilFunc)) vals) := ok_run fun o a us ho hus hl w => by
 have : us = [a.eval x] := by rw [← hus]; rfl
 subst this
 simp [execOp, ho]
theorem ok_convert {s t : TypeId} {x : Operand} {vals : List PV} : OpOk P G i (.convert s t x) vals (pRunL (fun l => convert s t (l.getD 0 .nilFunc)) vals) := ok_run fun o a us ho hus hl w => by
 have : us = [a.eval x] := by rw [← hus]; rfl
 subst this
 simp [execOp, ho]
theorem ok_index {t : TypeId} {x y : Operand} {vals : List PV} : OpOk P G i (.index t x y) vals (pRunL (fun l => Instr.index t (l.getD 0 .nilFunc) (l.getD 1 .nilFunc)) vals) := ok_run fun o a us ho hus hl w => by
 have : us = [a.eval x, a.eval y] := by rw [← hus]; rfl
 subst this
 simp [execOp, ho]
theorem ok_ifc {t : TypeId} {x : Operand} {T : TI} (hT : TyI P t T) (hk : T.k ≠ .ifc) {p : PV} (q : PV) (hq : ∀ (N : Nm) (h : Frag) v, PVR N h p v → PVR N h q (.iface t v)) : OpOk P G i (.makeInterface t x) [p] (.ret (val q)) := ok_val fun o a N hh w ho hl hv => by
 obtain ⟨v, hw, hp⟩ := hv.one
 obtain ⟨d, hu, hd⟩ := hT.und
 refine ⟨_, ?_, hq N hh v hp⟩
 have hn : ∀ ms, d ≠ .interface ms := fun ms e => by
  subst e
  cases hkk : T.k <;> rw [hkk] at hd <;> first
   | (exact hk hkk)
   | (obtain ⟨l, e, _⟩ := hd; cases e)
   | (exact hd.2 ms rfl)
   | (cases hd)
 simp only [execOp, ho, Instr.makeInterface, Sem.run_bind, run_underlying hu, Result.andThen_ok, map_one hw]
 cases d <;> first | rfl | exact absurd rfl (hn _)
theorem ok_makeFunc {f : Fn} {x y : Array Operand} {vals : List PV} : OpOk P G i (.makeFunc f x y) vals (.ret (val (.fn f (vals.take x.size) (vals.drop x.size)))) := ok_val fun o a N hh w ho hl hv => by
 refine ⟨_, by simp [execOp, ho, Instr.makeFunc]; rfl, ?_⟩
 rw [PVR]
 have hx := hv.take x.size
 have hy := hv.drop x.size
 have e : (Op.makeFunc f x y).operands.toList.map a.eval = x.toList.map a.eval ++ y.toList.map a.eval := by simp [Op.operands]
 rw [e] at hx hy
 rw [List.take_left' (by simp)] at hx
 rw [List.drop_left' (by simp)] at hy
 exact ⟨_, _, by congr 1 <;> (apply Array.ext'; simp), hx, hy⟩
theorem ok_extract {j : Nat} {x : Operand} {vs : List PV} {p : PV} (h : vs[j]? = some p) : OpOk P G i (.extract x j) [.tup vs] (.ret (val p)) := ok_val fun o a N hh w ho hl hv => by
 obtain ⟨v, hw, hp⟩ := hv.one
 rw [PVR] at hp
 obtain ⟨ws, rfl, hps⟩ := hp
 obtain ⟨u, hu, hp⟩ := hps.at h
 exact ⟨u, by simp [execOp, ho, map_one hw, Instr.extract, hu], hp⟩
end
end Go.Proofs.YtlmbcoecipbblaaGreatDoor
namespace Go.Proofs.YtlmbcoecipbblaaGreatDoor
open Go.RowKit
theorem patch_app {pre rest vs : List Value} {off : Nat} (h : pre.length = off) : patch (pre ++ rest) off vs = (pre ++ vs) ++ rest.drop vs.length := by
 subst h
 unfold patch
 rw [List.take_left' rfl, List.drop_append, List.drop_of_length_le (by omega)]
 simp
def placesOf (P : Program) (fs : Array Field) (pl : Array (Nat × Nat)) : Prop := ∀ w : World, (fs.mapM (fun f => do pure (f.offset, ← Go.sizeOf f.type) : Field → Sem (Nat × Nat))).run P w = .ok pl w
theorem run_build_of {P : Program} {t : TypeId} {zs cs : List Value} {pl : Array (Nat × Nat)} {parts : List (Nat × Value)} (hpl : ∃ fs, P.underlying t = some (.struct fs) ∧ placesOf P fs pl) (hz : (P.info? t).map (·.zero) = some (some (.agg zs.toArray)))
  (hf : Instr.fill (pl[·]?) zs.toArray parts = some cs.toArray) (w : World) : (Instr.build t parts.toArray).run P w = .ok (.agg cs.toArray) w := by
 obtain ⟨i, hi, hzi⟩ := Option.map_eq_some_iff.1 hz
 obtain ⟨fs, ht, hp⟩ := hpl
 have hp1 := hp w
 unfold Instr.build
 simp only [Go.zeroValue, typeInfo, hi, hzi, run_underlying ht, Sem.run_bind, Sem.run_pure, Result.andThen_ok, Value.cells]
 simp [Go.zeroValue, typeInfo, hi, hzi, run_underlying ht, Result.andThen, Value.cells, Sem.run_bind, Sem.run_pure] at hp1 ⊢
 simp [hp1, Result.andThen, hf]
theorem fill_next {place : Nat → Option (Nat × Nat)} {i : Nat} {v : Value} {pre vs rest out : List Value} {more : List (Nat × Value)} (hp : place i = some (pre.length, vs.length)) (hv : v.cells = vs.toArray) (hl : vs.length ≤ rest.length)
  (h : Instr.fill place ((pre ++ vs) ++ rest.drop vs.length).toArray more = some out.toArray) : Instr.fill place (pre ++ rest).toArray ((i, v) :: more) = some out.toArray := by
 rw [fill_part hp hv (by simp; exact hl), patch_app rfl]; exact h
section
variable {P : Program} {ops : Array Oper} {Q : Exit → Act → World → Prop} {S : World → Prop}
end
end Go.Proofs.YtlmbcoecipbblaaGreatDoor
namespace Go.Proofs.YtlmbcoecipbblaaGreatDoor
open Go.RowKit
def fragB (w : World) (B : Nat) : Frag := fun k => if k < B then w.heap[k]? else none
def fragU (w : World) (B : Nat) (E : List (Option Nat)) : Frag := fun k => if B ≤ k then fragE w E k else none
theorem fragU_grown {w w' : World} {B : Nat} {X : Option Nat} {E E' : List (Option Nat)} (hg : w.grownBy w' X) (hX : ∀ k, X = some k → k < B ∨ X ∈ E) (hE : ∀ k, some k ∈ E' → some k ∈ E ∨ w.heap.size ≤ k) : FLe (fragU w B E) (fragU w' B E') := fun k o e => by
 unfold fragU fragE at e ⊢
 split at e
 ·rename_i hB
  rw [if_pos hB]
  split at e
  ·cases e
  ·rename_i h
   have hk := heap_lt e
   rw [if_neg (fun e2 => by rcases hE k e2 with h2 | h2; exact h h2; omega)]
   refine (hg.block k hk ?_).trans e
   intro e2
   rcases hX k e2.symm with h2 | h2
   ·omega
   ·exact h (e2 ▸ h2)
 ·cases e
theorem fragU_sub (w : World) (B : Nat) {E E' : List (Option Nat)} (hE : ∀ k, some k ∈ E' → some k ∈ E) : FLe (fragU w B E) (fragU w B E') :=
 fragU_grown (World.grownBy.refl w .none) (fun k h => by cases h) (fun k h => .inl (hE k h))
theorem fragU_down (w : World) {B B' : Nat} {E E' : List (Option Nat)} (hB : B' ≤ B) (hE : ∀ k, some k ∈ E' → k < B) : FLe (fragU w B E) (fragU w B' E') := fun k o e => by
 unfold fragU at e ⊢
 split at e
 ·rename_i hk
  rw [if_pos (by omega)]
  unfold fragE at e ⊢
  split at e
  ·cases e
  ·rw [if_neg (fun h => by have := hE k h; omega)]; exact e
 ·cases e
structure ORow where
 ty : TypeId
 size : Nat
 v : Value
 n : Nat
 xs : List Value
def obs (L : List ORow) : List (Option Nat) := L.map (fun r => r.v.ownBlock)
structure Rows (B : Nat) (w : World) (L : List ORow) : Prop where
 own : ∀ r ∈ L, w.ownsRow B r.ty r.size r.v r.n r.xs
 apart : L.Pairwise (fun r r' => r.v.ownBlock = .none ∨ r.v.ownBlock ≠ r'.v.ownBlock)
theorem Rows.ge {B : Nat} {w : World} {L : List ORow} (h : Rows B w L) : ∀ k, some k ∈ obs L → B ≤ k ∧ k < w.heap.size := fun k hk => by
 obtain ⟨r, hr, e⟩ := List.mem_map.1 hk
 exact (h.own r hr).lt k e
theorem Rows.grown {B : Nat} {w w' : World} {L : List ORow} {X : Option Nat} (h : Rows B w L) (hg : w.grownBy w' X) (hX : ∀ k, X = some k → k < B) : Rows B w' L :=
 ⟨fun r hr => (h.own r hr).kept hg (by
  cases he : r.v.ownBlock with
  | none => exact .inl rfl
  | some k =>
   right
   intro e
   have := ((h.own r hr).lt k he).1
   have := hX k e.symm
   omega), h.apart⟩
theorem Rows.push {B : Nat} {w w' : World} {L M : List ORow} {r : ORow} {v' : Value} {n' : Nat} {xs' : List Value} (h : Rows B w (L ++ r :: M)) (ho : w'.ownsRow B r.ty r.size v' n' xs') (hg : w.grownBy w' r.v.ownBlock) (hat : v'.ownBlock = r.v.ownBlock ∨ ∃ g, v'.ownBlock = some g ∧ w.heap.size ≤ g) :
  Rows B w' (L ++ ⟨r.ty, r.size, v', n', xs'⟩ :: M) ∧ FLe (fragU w B (obs (L ++ r :: M))) (fragU w' B (obs (L ++ ⟨r.ty, r.size, v', n', xs'⟩ :: M))) := by
 have hp := List.pairwise_append.1 h.apart
 have hc := List.pairwise_cons.1 hp.2.1
 have hne1 : ∀ x ∈ L, x.v.ownBlock = .none ∨ x.v.ownBlock ≠ r.v.ownBlock := fun x hx => hp.2.2 x hx r (by simp)
 have hne2 : ∀ x ∈ M, x.v.ownBlock = .none ∨ x.v.ownBlock ≠ r.v.ownBlock := fun x hx => by
  rcases hc.1 x hx with h1 | h1
  ·rw [h1]
   cases hx' : x.v.ownBlock with
   | none => exact .inl rfl
   | some k => exact .inr (by simp)
  ·exact .inr (fun e => h1 e.symm)
 have hnew : ∀ x, x ∈ L ++ r :: M → (x.v.ownBlock = .none ∨ x.v.ownBlock ≠ r.v.ownBlock) → (x.v.ownBlock = .none ∨ x.v.ownBlock ≠ v'.ownBlock) := fun x hx hne => by
  rcases hne with h1 | h1
  ·exact .inl h1
  ·right
   rcases hat with h2 | ⟨g, h2, h3⟩
   ·rw [h2]; exact h1
   ·intro e
    have := ((h.own x hx).lt g (e.trans h2)).2
    omega
 refine ⟨⟨fun x hx => ?_, ?_⟩, fragU_grown hg (fun k hk => .inr ?_) (fun k hk => ?_)⟩
 ·rcases List.mem_append.1 hx with hx | hx
  ·exact (h.own x (by simp [hx])).kept hg (hne1 x hx)
  ·rcases List.mem_cons.1 hx with rfl | hx
   ·exact ho
   ·exact (h.own x (by simp [hx])).kept hg (hne2 x hx)
 ·refine List.pairwise_append.2 ⟨hp.1, List.pairwise_cons.2 ⟨fun x hx => ?_, hc.2⟩, fun x hx y hy => ?_⟩
  ·rcases hnew x (by simp [hx]) (hne2 x hx) with h1 | h1
   ·show v'.ownBlock = .none ∨ v'.ownBlock ≠ x.v.ownBlock
    rw [h1]
    cases v'.ownBlock with
    | none => exact .inl rfl
    | some k => exact .inr (by simp)
   ·exact .inr (fun e => h1 e.symm)
  ·rcases List.mem_cons.1 hy with rfl | hy
   ·exact hnew x (by simp [hx]) (hne1 x hx)
   ·exact hp.2.2 x hx y (by simp [hy])
 ·show r.v.ownBlock ∈ obs (L ++ r :: M)
  unfold obs; simp
 ·unfold obs at hk ⊢
  simp only [List.map_append, List.map_cons, List.mem_append, List.mem_cons] at hk ⊢
  rcases hk with hk | hk | hk
  ·exact .inl (.inl hk)
  ·rcases hat with h2 | ⟨g, h2, h3⟩
   ·left; right; left; rw [hk]; exact h2
   ·right; rw [h2] at hk; cases hk; exact h3
  ·exact .inl (.inr (.inr hk))
theorem Rows.nil (B : Nat) (w : World) (L : List ORow) (h : ∀ r ∈ L, r.v = .slice .none 0 0 ∧ r.n = 0 ∧ r.xs = []) : Rows B w L := by
 refine ⟨fun r hr => ?_, ?_⟩
 ·obtain ⟨h1, h2, h3⟩ := h r hr
  rw [h1, h2, h3]
  exact World.ownsRow_nil _ _ _ _
 ·induction L with
  | nil => exact List.Pairwise.nil
  | cons r M ih =>
   refine List.pairwise_cons.2 ⟨fun x hx => .inl ?_, ih (fun x hx => h x (by simp [hx]))⟩
   rw [(h r (by simp)).1]; rfl
theorem HRow.of_ownsU {w : World} {B base : Nat} {e : TypeId} {size : Nat} {v : Value} {n : Nat} {xs : List Value} (ho : w.ownsRow base e size v n xs) (hB : B ≤ base) : ∃ a cap, v = .slice a n cap ∧ HRow (fragU w B []) a xs ∧ n ≤ cap ∧ cap ≤ maxLen ∧ (a = .none → cap = 0) := by
 have hlen := ho.1
 rcases ho.2 with ⟨rfl, rfl⟩ | ⟨g, cap, cur, rfl, hb, hg, hnc, hcm, hcs, htake⟩
 ·exact ⟨none, 0, rfl, .inl (List.eq_nil_of_length_eq_zero (by simpa using hlen)), Nat.le_refl _, Nat.zero_le _, fun _ => rfl⟩
 ·refine ⟨_, cap, rfl, .inr ⟨g, 0, cur, e, (0, 0), rfl, ?_, fun i hi => ?_⟩, hnc, hcm, fun e => by cases e⟩
  ·unfold fragU fragE; rw [if_pos (by omega), if_neg (by simp)]; exact hg
  ·rw [Nat.zero_add, ← htake, List.getElem?_take, if_pos (by omega)]; simp
theorem FlatV.of_ownsU {α : Type} {f : α → List Value} {s : Nat} {w : World} {B base : Nat} {e : TypeId} {v : Value} {xs : List α} (ho : w.ownsRow base e s v xs.length (xs.flatMap f)) (hB : B ≤ base) : FlatV f (fragU w B []) v xs := by
 obtain ⟨a, cap, rfl, hrow, h1, h2, h0⟩ := HRow.of_ownsU ho hB
 exact ⟨a, cap, rfl, h1, h2, h0, hrow⟩
theorem FlatC.of_ownsU {s : Nat} {w : World} {B base : Nat} {e : TypeId} {v : Value} {es : List (List Value)} (ho : w.ownsRow base e s v es.length es.flatten) (hB : B ≤ base) (hes : ∀ x ∈ es, x.length = s) : FlatC s (fragU w B []) v es := by
 obtain ⟨a, cap, rfl, hrow, h1, h2, h0⟩ := HRow.of_ownsU ho hB
 exact ⟨a, cap, rfl, h1, h2, h0, hrow, hes⟩
theorem own_one {w : World} {B : Nat} {e : TypeId} {size : Nat} {v : Value} {n : Nat} {xs : List Value} (h : w.ownsRow B e size v n xs) : v.oneCell' = true := by
 rcases h.2 with ⟨rfl, _⟩ | ⟨g, cap, cur, rfl, _⟩ <;> rfl
end Go.Proofs.YtlmbcoecipbblaaGreatDoor
namespace Go.Proofs.YtlmbcoecipbblaaGreatDoor
open Go.RowKit
section
variable {P : Program} {ti : Tb} {G : List (Nat × List DV)} {i : Nat}
theorem places_run (hti : TyOk P ti) : ∀ (fl : List Field) (pl : List (Nat × Nat)), placesT ti (fl.map fun f => (f.offset, f.type)) = some pl → ∀ w, (fl.mapM (fun f => do pure (f.offset, ← Go.sizeOf f.type) : Field → Sem (Nat × Nat))).run P w = .ok pl w
 | [], pl, h, w => by cases h; rfl
 | f :: r, pl, h, w => by
  rw [List.map_cons] at h
  unfold placesT at h
  split at h
  ·rename_i U l hU hl
   cases h
   have ih := places_run hti r l hl w
   simp only [List.mapM_cons, Sem.run_bind, (hti _ _ hU).sizeOf, Result.andThen_ok, Sem.run_pure, ih]
  ·cases h
theorem fill_run {N : Nm} {h : Frag} {pl : List (Nat × Nat)} : ∀ (js : List Nat) (ps : List PV) (us : List Value) (cs out : List PV) (ws : List Value), fillP pl js ps cs = some out → PVRs N h ps us → PVRs N h cs ws → (∀ u ∈ ws, u.oneCell' = true) →
  ∃ o, Instr.fill (pl.toArray[·]?) ws.toArray (js.zip us) = some o.toArray ∧ PVRs N h out o ∧ ∀ u ∈ o, u.oneCell' = true
 | [], [], us, cs, out, ws, hf, hp, hc, h1 => by
  cases hf
  rw [hp.eq_nil]
  exact ⟨ws, rfl, hc, h1⟩
 | [], p :: ps, us, cs, out, ws, hf, hp, hc, h1 => by cases hf
 | j :: js, [], us, cs, out, ws, hf, hp, hc, h1 => by cases hf
 | j :: js, p :: ps, us, cs, out, ws, hf, hp, hc, h1 => by
  obtain ⟨u, us', rfl, hu, hr⟩ := hp.cons
  unfold fillP at hf
  split at hf
  ·rename_i off n vs hj hv
   split at hf
   ·rename_i hl
    obtain ⟨xs, hx, hxs, hx1⟩ := cells_of hv hu
    have hlen : xs.length = n := by rw [hxs.len]; exact hl.1
    obtain ⟨o, q1, q2, q3⟩ := fill_run js ps us' _ out (patch ws off xs) hf hr (hc.patch hxs off) (patch_ones h1 hx1 off)
    refine ⟨o, ?_, q2, q3⟩
    rw [List.zip_cons_cons, fill_part (off := off) (vs := xs) (by simp [hj, hlen]) hx (by rw [hxs.len, hc.len]; exact hl.2)]
    exact q1
   ·cases hf
  ·cases hf
theorem ok_build (hti : TyOk P ti) {t : TypeId} {ps : Array (Nat × Operand)} {T : TI} (hT : TyI P t T) {fs pl : List (Nat × Nat)} (hk : T.k = .st fs) (hpl : placesT ti fs = some pl) {vals cs : List PV} (hf : fillP pl (ps.toList.map (·.1)) vals (T.z.map zcell) = some cs) : OpOk P G i (.build t ps) vals (.ret (val (.agg cs))) := ok_val fun o a N hh w ho hl hv => by
 obtain ⟨d, hu, hd⟩ := hT.und
 rw [hk] at hd
 obtain ⟨fl, rfl, hfs⟩ := hd
 obtain ⟨out, q1, q2, q3⟩ := fill_run (N := N) (h := hh) _ _ _ _ _ _ hf hv (PVRs.zero T.z) (zsV_one T.z)
 refine ⟨.agg out.toArray, ?_, by rw [PVR]; exact ⟨out, rfl, q2, q3⟩⟩
 have hz : (P.info? t).map (·.zero) = some (some (.agg (zsV T.z).toArray)) := by
  have := hT.info
  unfold TI.zv at this; rw [hk] at this
  cases hq : P.info? t with
  | none => simp [hq] at this
  | some i => simp [hq] at this ⊢; exact this.2.2
 have hrun := run_build_of (P := P) (t := t) (zs := zsV T.z) (cs := out) (pl := pl.toArray) (parts := (ps.toList.map (·.1)).zip ((Op.build t ps).operands.toList.map a.eval)) ⟨fl, hu, fun w => by
  have := places_run hti fl.toList pl (by rw [hfs]; exact hpl) w
  rw [Array.mapM_eq_mapM_toList, Sem.run_map, this]; rfl⟩ hz q1 w
 have e : (ps.map fun x => (x.1, a.eval x.2)) = ((ps.toList.map (·.1)).zip ((Op.build t ps).operands.toList.map a.eval)).toArray := by
  apply Array.ext'
  simp [Op.operands, List.zip_map', List.map_map]
 simp only [execOp, ho, e, Sem.run_bind, hrun, Result.andThen_ok, Sem.run_pure]
theorem elems_run {N : Nm} {h : Frag} {n : Nat} : ∀ (k : Nat) (js : List Nat) (ps : List PV) (us : List Value) (out : List (List (Unit → DV))) (pre rest : List Value), elemsP n k js ps = some out → PVRs N h ps us → pre.length = k * n → rest.length = js.length * n →
  ∃ ess : List (List Value), Instr.fill (fun i => some (i * n, n)) (pre ++ rest).toArray (js.zip us) = some (pre ++ ess.flatten).toArray ∧ DRss h (elemsV out) ess ∧ ∀ e ∈ ess, e.length = n
 | k, [], [], us, out, pre, rest, hf, hp, h1, h2 => by
  cases hf
  rw [hp.eq_nil]
  have : rest = [] := List.eq_nil_of_length_eq_zero (by simpa using h2)
  exact ⟨[], by simp [this, Instr.fill], by simp [elemsV, DRss], by simp⟩
 | k, [], p :: ps, us, out, pre, rest, hf, hp, h1, h2 => by cases hf
 | k, j :: js, [], us, out, pre, rest, hf, hp, h1, h2 => by cases hf
 | k, j :: js, p :: ps, us, out, pre, rest, hf, hp, h1, h2 => by
  obtain ⟨u, us', rfl, hu, hr⟩ := hp.cons
  unfold elemsP at hf
  split at hf
  ·rename_i hkj
   subst hkj
   split at hf
   ·rename_i vs hv
    split at hf
    ·rename_i l hl
     split at hf
     ·rename_i hn
      obtain ⟨out', ho, rfl⟩ := Option.map_eq_some_iff.1 hf
      obtain ⟨xs, hx, hxs, hx1⟩ := cells_of hv hu
      rw [allD_pv hl] at hxs
      have hlen : xs.length = n := by rw [hxs.len, List.length_map, hn]
      have hle : n ≤ rest.length := by rw [h2, List.length_cons, Nat.succ_mul]; omega
      obtain ⟨ess, q1, q2, q3⟩ := elems_run (k + 1) js ps us' out' (pre ++ xs) (rest.drop n) ho hr (by rw [List.length_append, h1, hlen, Nat.succ_mul]) (by rw [List.length_drop, h2, List.length_cons, Nat.succ_mul]; omega)
      refine ⟨xs :: ess, ?_, ?_, ?_⟩
      ·rw [List.zip_cons_cons, fill_next (pre := pre) (vs := xs) (rest := rest) (by rw [h1, hlen]) hx (by omega)]
       rw [hlen]
       rw [q1]; simp
      ·unfold elemsV at q2 ⊢
       rw [List.map_cons, DRss]
       exact ⟨xs, ess, rfl, hxs.to_ds, q2⟩
      ·intro e he
       rcases List.mem_cons.1 he with rfl | he
       ·exact hlen
       ·exact q3 e he
     ·cases hf
    ·cases hf
   ·cases hf
  ·cases hf
theorem ok_buildSlice {t e : TypeId} {n : Nat} {ps : Array (Nat × Operand)} {T E : TI} (hT : TyI P t T) (hk : T.k = .sl e) (hE : TyI P e E) (hn : n = ps.size) (h0 : ¬ E.size = 0) (hle : n * E.size ≤ 2 ^ 24) {vals : List PV} {l : List (List (Unit → DV))} (hf : elemsP E.size 0 (ps.toList.map (·.1)) vals = some l) :
  OpOk P G i (.buildSlice t n ps) vals (.ret ⟨.own i (i + 1), [(i, some (.row (i + 1) e E.size (fun _ => elemsV l)))]⟩) := fun F Xp dm dm' w0 w N M o a next Q ef l1 l1' h1 h2 h3 h4 h5 hy K => by
 cases hy with
 | ret =>
  obtain ⟨hu, he⟩ := elem_of hT hk
  have hi := h5 i (by simp [names])
  have hk1 := h5 (i + 1) (by simp [names])
  have hz := hE.cells
  have hzl : (zsV E.z).length = E.size := by rw [zsV, List.length_map]; exact hE.len
  obtain ⟨ess, q1, q2, q3⟩ := elems_run (h := rd F N M w) 0 (ps.toList.map (·.1)) vals _ l [] ((Array.range (n * E.size)).map ((zsV E.z).toArray[· % (zsV E.z).toArray.size]!)).toList hf h3 (by simp) (by simp [hn])
  have hlen : ess.length = n := by
   have h6 := q2.len
   have h7 : ∀ (k : Nat) (js : List Nat) (us : List PV) (l : List (List (Unit → DV))), elemsP E.size k js us = some l → l.length = js.length := fun k js => by
    induction js generalizing k with
    | nil => intro us l h; cases us <;> cases h; rfl
    | cons j js ih =>
     intro us l h
     cases us with
     | nil => cases h
     | cons u us =>
      unfold elemsP at h
      split at h
      ·split at h
       ·split at h
        ·split at h
         ·obtain ⟨x, hx, rfl⟩ := Option.map_eq_some_iff.1 h
          simp [ih _ _ _ hx]
         ·cases h
        ·cases h
       ·cases h
      ·cases h
   rw [h6, elemsV, List.length_map, h7 _ _ _ _ hf, List.length_map, Array.length_toList, hn]
  have hfl := flatten_len q3
  have hm : n ≤ maxLen := by unfold maxLen; have := Nat.le_mul_of_pos_right n (Nat.pos_of_ne_zero h0); omega
  have hw := World.ownsRow_lit (base := 0) (e := e) (size := E.size) w ess.flatten.toArray n (Nat.zero_le _) hm (by simp [hfl, hlen])
  have hel : (elemsV l).length = n := by rw [← q2.len, hlen]
  obtain ⟨r1, r2⟩ := h2.row h4 (r := i) (k := i + 1) (t := e) (n := E.size) (es := fun _ => elemsV l) (ess := ess) (v := .slice (some ⟨w.heap.size, 0, none⟩) n n) hk1.1 hk1.2 hi.2 none (World.grownBy_alloc w (.cells ess.flatten.toArray e) none) (fun _ h => by cases h) (.inr ⟨_, rfl, Nat.le_refl _⟩) (by simpa [hel] using hw) q2 q3
  refine wp_val (v := .slice (some ⟨w.heap.size, 0, none⟩) n n) ?_ (K _ _ _ (Nm.up_setV ((h2.dom (i + 1) hk1.1).2 i).1 hk1.1) r1 r2 ?_)
  ·have e1 : (ps.map fun x => (x.1, a.eval x.2)).toList = (ps.toList.map (·.1)).zip ((Op.buildSlice t n ps).operands.toList.map a.eval) := by
    simp [Op.operands, List.zip_map', List.map_map]
   have hb : (Instr.buildSlice t n (ps.map fun x => (x.1, a.eval x.2))).run P w = .ok (.slice (some ⟨w.heap.size, 0, none⟩) n n) (w.alloc (.cells ess.flatten.toArray e)) := by
    unfold Instr.buildSlice
    simp only [Sem.run_bind, run_underlying hu, Result.andThen_ok, hE.sizeOf]
    rw [if_neg (by omega)]
    have hps : (ps.map fun x => (x.1, a.eval x.2)).toList = (ps.toList.map (·.1)).zip ((Op.buildSlice t n ps).operands.toList.map a.eval) := e1
    simp only [List.nil_append, Array.toArray_toList] at q1
    split
    ·rename_i hz0
     have hc0 : (Array.range (n * E.size)).map ((#[] : Array Value)[· % (#[] : Array Value).size]!) = ((Array.range (n * E.size)).map ((zsV E.z).toArray[· % (zsV E.z).toArray.size]!)) := by rw [hz0]; simp
     simp only [Sem.run_bind, Sem.run_pure, Result.andThen_ok]
     rw [hc0, hps, q1]
     simp only [newRow, Sem.run_bind, run_newObj_alloc, Result.andThen_ok, Sem.run_pure]
    ·simp only [Sem.run_bind, hE.zero, Sem.run_pure, Result.andThen_ok, hz]
     rw [hps, q1]
     simp only [newRow, Sem.run_bind, run_newObj_alloc, Result.andThen_ok, Sem.run_pure]
   simp only [execOp, h1, Sem.run_bind, hb, Result.andThen_ok, Sem.run_pure]
  ·rw [PVR]; exact ⟨by show (if i = i ∧ i + 1 = i + 1 then some _ else _) = _; rw [if_pos ⟨rfl, rfl⟩], rfl⟩
end
end Go.Proofs.YtlmbcoecipbblaaGreatDoor
namespace Go.Proofs.YtlmbcoecipbblaaGreatDoor
open Go.RowKit
section
variable {P : Program} {ti : Tb} {G : List (Nat × List DV)} {i : Nat}
theorem builtin_run {o : Oper} {a : Act} {c : Call} {b : Builtin} (ho : o.op = .call c) (hc : c.callee = .builtin b) (w : World) : (execOp a.eval o).run P w = (builtin b c.argTypes o.type (c.args.map fun | .const _ => true | _ => false) (c.args.map a.eval)).run P w := by
 simp only [execOp, ho, resolve, hc, invoke, Sem.run_bind, Sem.run_pure, Result.andThen_ok]
 rfl
theorem args_of {c : Call} {b : Builtin} (hc : c.callee = .builtin b) (a : Act) : (Op.call c).operands.toList.map a.eval = (c.args.map a.eval).toList := by
 simp [Op.operands, Call.operands, hc]
theorem ok_mm {c : Call} {mn : Bool} (hc : c.callee = .builtin (if mn then .min else .max)) {vals : List PV} : OpOk P G i (.call c) vals (pMM mn vals) := by
 unfold pMM
 split
 ·rename_i x y
  refine ok_ask fun hx => ok_ask fun hy => ok_val fun o a N hh w ho hl hv => ?_
  obtain ⟨n, hx⟩ := hx
  obtain ⟨m, hy⟩ := hy
  rw [args_of hc] at hv
  obtain ⟨u, v, he, h1, h2⟩ := hv.two
  have e : c.args.map a.eval = #[u, v] := by rw [← Array.toArray_toList (xs := c.args.map a.eval), he]
  rw [PVR, hx, DR] at h1
  rw [PVR, hy, DR] at h2
  rw [builtin_run ho hc, e, h1.1, h2.1]
  cases mn
  ·refine ⟨.int .i64 (max n m), ?_, by rw [PVR, DR, hx, hy]; exact ⟨rfl, rfl⟩⟩
   rw [show (if false = true then Builtin.min else Builtin.max) = Builtin.max from rfl]
   simp only [builtin, Sem.run_bind, Lib.run_max_ints, Result.andThen_ok, Sem.run_pure]
  ·refine ⟨.int .i64 (min n m), ?_, by rw [PVR, DR, hx, hy]; exact ⟨rfl, rfl⟩⟩
   rw [show (if true = true then Builtin.min else Builtin.max) = Builtin.min from rfl]
   simp only [builtin, Sem.run_bind, Lib.run_min_ints, Result.andThen_ok, Sem.run_pure]
 ·exact ok_fail
theorem ok_len {c : Call} {t : TypeId} {T : TI} (hc : c.callee = .builtin .len) (ht : c.argTypes.toList = [t]) (hT : TyI P t T) {vals : List PV} : OpOk P G i (.call c) vals (pLen T.k vals) := by
 have hat : c.argTypes = #[t] := by rw [← Array.toArray_toList (xs := c.argTypes), ht]
 obtain ⟨d, hu, hd⟩ := hT.und
 have run : ∀ {o : Oper} {a : Act} {w : World} {v : Value} {n : Nat}, o.op = .call c → (Op.call c).operands.toList.map a.eval = [v] → (Builtin.len_ #[t] o.type #[v]).run P w = .ok (goInt n) w → (execOp a.eval o).run P w = .ok (.value (.int .i64 n)) w := fun {o a w v n} ho hv hr => by
  rw [args_of hc] at hv
  have e : c.args.map a.eval = #[v] := by rw [← Array.toArray_toList (xs := c.args.map a.eval), hv]
  rw [builtin_run ho hc, e, hat]
  simp only [builtin, Sem.run_bind, hr, Result.andThen_ok, Sem.run_pure]
  rfl
 unfold pLen
 split
 ·rename_i x
  split
  ·rename_i e hk
   rw [hk] at hd
   have hd' : d = .slice e := hd
   subst hd'
   have hu' : P.underlying t = some (.slice (P.elem t)) := by rw [(elem_of hT hk).2]; exact hu
   refine ok_ask fun hx => ok_val fun o a N hh w ho hl hv => ?_
   obtain ⟨v, hw, hp⟩ := hv.one
   rw [PVR] at hp
   rcases hx with ⟨es, e1⟩ | ⟨ad, n, cc, e1⟩
   ·rw [e1, DR] at hp
    obtain ⟨s, ess, ⟨ad, cap, rfl, _⟩, hds⟩ := hp
    refine ⟨_, run ho hw (run_len_slice _ _ _ _ _ _ hu'), ?_⟩
    rw [PVR, e1, hds.len]; exact ⟨rfl, rfl⟩
   ·rw [e1, DR] at hp
    obtain ⟨rfl, _⟩ := hp
    refine ⟨_, run ho hw (run_len_slice _ _ _ _ _ _ hu'), ?_⟩
    rw [PVR, e1]; exact ⟨rfl, rfl⟩
  ·rename_i hk
   rw [hk] at hd
   have hd' : d = .string := hd
   subst hd'
   refine ok_ask fun ⟨s, hx⟩ => ok_val fun o a N hh w ho hl hv => ?_
   obtain ⟨v, hw, hp⟩ := hv.one
   obtain rfl := hp.dLit hx
   refine ⟨_, run ho hw (run_len_string _ _ _ _ hu), ?_⟩
   rw [PVR, hx]; exact ⟨rfl, rfl⟩
  ·exact ok_fail
 ·rename_i r k
  split
  ·rename_i e hk
   rw [hk] at hd
   have hd' : d = .slice e := hd
   subst hd'
   have hu' : P.underlying t = some (.slice (P.elem t)) := by rw [(elem_of hT hk).2]; exact hu
   intro F Xp dm dm' w0 w N M o a next Q ef l l' h1 h2 h3 h4 h5 hy K
   obtain ⟨v, hw, hp⟩ := h3.one
   cases hy with
   | @obj _ ob _ _ _ _ hM hy =>
    cases ob with
    | blk => cases hy
    | row k' t' n' es =>
     dsimp only at hy
     split at hy
     ·rename_i hkk
      subst hkk
      cases hy
      rw [PVR] at hp
      obtain ⟨v', ess, hV, how, _⟩ := h2.obj _ _ hM
      rw [hp.1] at hV; cases hV
      have hfin : ∀ ad cc, v = .slice ad (es ()).length cc → o.wp P a w next Q := fun ad cc e1 => by
       subst e1
       exact wp_val (run h1 hw (run_len_slice _ _ _ _ _ _ hu')) (K.stay h2 h4 rfl (PVR.lit rfl rfl))
      rcases how.2 with ⟨e1, e2⟩ | ⟨g, cap, cur, e1, _⟩
      ·exact hfin none 0 (by rw [e1, e2])
      ·exact hfin _ _ e1
     ·cases hy
  ·exact ok_fail
 ·exact ok_fail
theorem DR.flat {h : Frag} {es : List (List DV)} {v : Value} {n : Nat} (hd : DR h (.sl es) v) (hn : ∀ e ∈ es, e.length = n) : ∃ ad cap ess, v = .slice ad ess.length cap ∧ ess.length ≤ cap ∧ cap ≤ maxLen ∧ (ad = none → cap = 0) ∧ HRow h ad ess.flatten ∧ (∀ e ∈ ess, e.length = n) ∧ DRss h es ess := by
 rw [DR] at hd
 obtain ⟨s, ess, ⟨ad, cap, rfl, h1, h2, h3, h4, h5⟩, hds⟩ := hd
 refine ⟨ad, cap, ess, rfl, h1, h2, h3, h4, fun e he => ?_, hds⟩
 obtain ⟨j, hj, rfl⟩ := List.mem_iff_getElem.1 he
 have hj' : j < es.length := by rw [← hds.len]; exact hj
 obtain ⟨ws, hws, hd⟩ := hds.at (List.getElem?_eq_getElem hj')
 rw [List.getElem?_eq_getElem hj] at hws
 cases hws
 rw [hd.len]; exact hn _ (List.getElem_mem hj')
theorem HRow.drop {h : Frag} {a : Option Addr} {xs : List Value} (hr : HRow h a xs) (k : Nat) : HRow h (a.map (·.add k)) (xs.drop k) := by
 rcases hr with rfl | ⟨b, off, cur, t, fr, rfl, hb, hc⟩
 ·exact .inl (by simp)
 ·refine .inr ⟨b, off + k, cur, t, fr, by simp [Addr.add_none], hb, fun i hi => ?_⟩
  rw [List.length_drop] at hi
  rw [Nat.add_assoc, hc _ (by omega), List.getElem?_drop]
theorem flatten_drop {n : Nat} : ∀ {ess : List (List Value)} (k : Nat), (∀ e ∈ ess, e.length = n) → (ess.drop k).flatten = ess.flatten.drop (k * n)
 | ess, 0, _ => by simp
 | [], k + 1, _ => by simp
 | e :: r, k + 1, h => by
  have hi : (k + 1) * n = e.length + k * n := by rw [h e (List.mem_cons_self ..), Nat.succ_mul, Nat.add_comm]
  rw [List.drop_succ_cons, flatten_drop k (fun x hx => h x (List.mem_cons_of_mem _ hx)), List.flatten_cons, hi, List.drop_append, List.drop_of_length_le (Nat.le_add_right _ _), List.nil_append, Nat.add_sub_cancel_left]
theorem eflatten_take {n : Nat} : ∀ {ess : List (List Value)} (k : Nat), (∀ e ∈ ess, e.length = n) → (ess.take k).flatten = ess.flatten.take (k * n)
 | ess, 0, _ => by simp
 | [], k + 1, _ => by simp
 | e :: r, k + 1, h => by
  have hi : (k + 1) * n = e.length + k * n := by rw [h e (List.mem_cons_self ..), Nat.succ_mul, Nat.add_comm]
  rw [List.take_succ_cons, List.flatten_cons, eflatten_take k (fun x hx => h x (List.mem_cons_of_mem _ hx)), List.flatten_cons, hi, List.take_append, List.take_of_length_le (Nat.le_add_right _ _), Nat.add_sub_cancel_left]
theorem DR.part {h : Frag} {es : List (List DV)} {ad : Option Addr} {cap n l r : Nat} {ess : List (List Value)} (h1 : ess.length ≤ cap) (h2 : cap ≤ maxLen) (h3 : ad = none → cap = 0) (h4 : HRow h ad ess.flatten) (h5 : ∀ e ∈ ess, e.length = n) (h6 : DRss h es ess) (hl : l ≤ r) (hr : r ≤ ess.length) :
  DR h (.sl ((es.take r).drop l)) (.slice (if cap = l then ad else ad.map (·.add (l * n))) (r - l) (cap - l)) := by
 rw [DR]
 refine ⟨n, (ess.take r).drop l, ⟨if cap = l then ad else ad.map (·.add (l * n)), cap - l, ?_, ?_, by omega, ?_, ?_, fun e he => h5 e (List.mem_of_mem_take (List.mem_of_mem_drop he))⟩, (h6.take r).drop l⟩
 ·congr 1
  rw [List.length_drop, List.length_take]; omega
 ·rw [List.length_drop, List.length_take]; omega
 ·intro e
  split at e
  ·have := h3 e; omega
  ·cases ad with
   | none => have := h3 rfl; omega
   | some x => cases e
 ·rw [flatten_drop l (fun e he => h5 e (List.mem_of_mem_take he)), eflatten_take r h5]
  split
  ·refine .inl (List.drop_of_length_le ?_)
   rw [List.length_take, flatten_len h5]
   have : r = l := by omega
   subst this; exact Nat.min_le_left _ _
  ·exact (h4.take (r * n)).drop (l * n)
theorem ok_slice {t e : TypeId} {x : Operand} {lo hi : Option Operand} {T E : TI} (hT : TyI P t T) (hk : T.k = .sl e) (hE : TyI P e E) {vals : List PV} : OpOk P G i (.slice t x lo hi none) vals (pSlice E lo hi vals) := by
 obtain ⟨hu, he⟩ := elem_of hT hk
 have hu' : P.underlying t = some (.slice (P.elem t)) := by rw [he]; exact hu
 unfold pSlice
 split
 ·rename_i xx l
  refine ok_opt fun ⟨ba, pa, l1⟩ hb1 => ok_opt fun ⟨bb, pb, l2⟩ hb2 => ok_ask fun ⟨⟨es, hes⟩, hn⟩ => ok_ask fun ⟨qa, qb, q0, q1, q2⟩ => ok_val fun o a N hh w ho hl hv => ?_
  obtain ⟨v, vs, hw, hp, hr⟩ := hv.cons
  rw [PVR, hes] at hp
  rw [hes] at hn q2
  obtain ⟨ad, cap, ess, rfl, g1, g2, g3, g4, g5, g6⟩ := hp.flat hn
  have hlen : ess.length = es.length := g6.len
  have q2' : bb () ≤ (ess.length : Int) := by rw [hlen]; exact q2
  have hres := DR.part g1 g2 g3 g4 g5 g6 (l := (ba ()).toNat) (r := (bb ()).toNat) (by omega) (by omega)
  have fin : ∀ {v : Value}, (Instr.sliceAt t (.slice ad ess.length cap) (lo.map a.eval) (hi.map a.eval) none).run P w = .ok v w → v = .slice (if cap = (ba ()).toNat then ad else ad.map (·.add ((ba ()).toNat * E.size))) ((bb ()).toNat - (ba ()).toNat) (cap - (ba ()).toNat) → ∃ v, (execOp a.eval o).run P w = .ok (.value v) w ∧ PVR N hh (.d fun _ => .sl ((((xx ()).es.take (bb ()).toNat).drop (ba ()).toNat))) v := fun {v} hrun hv => by
   have hx : a.eval x = .slice ad ess.length cap := by
    have := congrArg List.head? hw
    simpa [Op.operands] using this
   refine ⟨v, by simp only [execOp, ho, hx, Option.map_none, Sem.run_bind, hrun, Result.andThen_ok, Sem.run_pure], ?_⟩
   rw [PVR]
   show DR hh (.sl (((DV.es (xx ())).take _).drop _)) v
   rw [hes, hv]; exact hres
  have hvs : vs = lo.toList.map a.eval ++ hi.toList.map a.eval := by
   have := congrArg List.tail hw
   simp [Op.operands] at this
   cases lo <;> cases hi <;> simpa using this.symm
  subst hvs
  rw [run_sliceAt_slice (h := hu')] at fin
  cases lo with
  | none =>
   cases hb1
   cases hi with
   | none =>
    cases hb2
    refine fin (by rw [Option.map_none, run_slice_all (ht := hu'), he, hE.sizeOf]; rfl) ?_
    have e1 : (((DV.es (xx ())).length : Int)).toNat = ess.length := by rw [hes, hlen]; rfl
    simp only [sliced, e1]; rfl
   | some y =>
    unfold boundP at hb2
    dsimp only at hb2
    split at hb2
    ·rename_i jj r
     cases hb2
     obtain ⟨u, us, hu2, hj, _⟩ := hr.cons
     simp at hu2
     obtain ⟨rfl, _⟩ := hu2
     obtain ⟨k, n, e1, e2⟩ := hj.dInt qb
     have q1' : (0:Int) ≤ intD (jj ()) := q1
     have q2'' : intD (jj ()) ≤ (ess.length : Int) := q2'
     refine fin (v := sliced ad 0 n.toNat cap E.size) (by rw [Option.map_none, Option.map_some, e1, run_slice_h (ht := hu') _ _ _ _ _ k n (by omega) (by omega), he, hE.sizeOf]; rfl) ?_
     simp only [sliced, e2]; rfl
    ·cases hb2
  | some y0 =>
   unfold boundP at hb1
   dsimp only at hb1
   split at hb1
   ·rename_i jj r
    cases hb1
    obtain ⟨u, us, hu2, hj, hr'⟩ := hr.cons
    obtain ⟨k, n, e1, e2⟩ := hj.dInt qa
    cases hi with
    | none =>
     cases hb2
     simp at hu2
     obtain ⟨hu2, _⟩ := hu2
     subst hu2
     have q0' : (0:Int) ≤ intD (jj ()) := q0
     have q1' : intD (jj ()) ≤ (((DV.es (xx ())).length : Nat) : Int) := q1
     have e3 : (DV.es (xx ())).length = ess.length := by rw [hes, hlen]; rfl
     rw [e3] at q1'
     refine fin (v := sliced ad n.toNat ess.length cap E.size) (by rw [Option.map_none, Option.map_some, e1, run_slice_l (ht := hu') _ _ _ _ _ k n (by omega) (by omega), he, hE.sizeOf]; rfl) ?_
     have e4 : (((DV.es (xx ())).length : Int)).toNat = ess.length := by rw [e3]; rfl
     simp only [sliced, e2, e4]
    | some y1 =>
     unfold boundP at hb2
     dsimp only at hb2
     split at hb2
     ·rename_i jj2 r2
      cases hb2
      obtain ⟨u2, us2, hu3, hj2, _⟩ := hr'.cons
      obtain ⟨k2, n2, e3, e4⟩ := hj2.dInt qb
      subst hu3
      simp at hu2
      obtain ⟨rfl, rfl, _⟩ := hu2
      have q0' : (0:Int) ≤ intD (jj ()) := q0
      have q1' : intD (jj ()) ≤ intD (jj2 ()) := q1
      have q2'' : intD (jj2 ()) ≤ (ess.length : Int) := q2'
      refine fin (v := sliced ad n.toNat n2.toNat cap E.size) (by rw [Option.map_some, Option.map_some, e1, e3, run_slice_lh (ht := hu') _ _ _ _ _ k k2 n n2 (by omega) (by omega) (by omega), he, hE.sizeOf]; rfl) ?_
      simp only [sliced, e2, e4]
     ·cases hb2
   ·cases hb1
 ·exact ok_fail
end
end Go.Proofs.YtlmbcoecipbblaaGreatDoor
namespace Go.Proofs.YtlmbcoecipbblaaGreatDoor
open Go.RowKit
section
variable {P : Program} {ti : Tb} {G : List (Nat × List DV)} {i : Nat}
def Rows2 (n : Nat) (h : Frag) (w : World) (x : Value) (es : List (List DV)) : Prop := ∃ (ad : Option Addr) (m c : Nat) (ess : List (List Value)), x = .slice ad m c ∧ (ad = none → c = 0) ∧ m ≤ c ∧ HRow (frag w) ad ess.flatten ∧ ess.length = m ∧ (∀ e ∈ ess, e.length = n) ∧ DRss h es ess
theorem elems_yl {n : Nat} {p : PV} {f : (Unit → List (List DV)) → Tr Eff} {F Xp dm : Nat → Prop} {w0 w : World} {N : Nm} {M : Nat → Option Ob} {l l' : List Nat} {e : Eff} {x : Value} (H : Mem G F Xp dm w0 N M w) (hp : PVR N (rd F N M w) p x) (hy : Yl P G M (pElems n p f) l l' e) : ∃ es l1, Yl P G M (f es) l1 l' e ∧ Rows2 n (rd F N M w) w x (es ()) := by
 unfold pElems at hy
 split at hy
 ·cases hy with
  | @obj _ ob _ _ _ _ hM hy =>
   cases ob with
   | blk => cases hy
   | row k' t' n' es =>
    dsimp only at hy
    split at hy
    ·rename_i hkk
     obtain ⟨rfl, rfl⟩ := hkk
     rw [PVR] at hp
     obtain ⟨v, ess, hV, how, hds, hes⟩ := H.obj _ _ hM
     rw [hp.1] at hV; cases hV
     obtain ⟨ad, cap, e1, h1, h2, h3, h4⟩ := HRow.of_owns (E := []) how (by cases hb : x.ownBlock with
      | none => exact .inl rfl
      | some k => exact .inr (by simp))
     rw [fragE_nil] at h1
     exact ⟨es, _, hy, ad, _, cap, ess, e1, h4, h2, h1, hds.len, hes, hds⟩
    ·cases hy
 ·rename_i yy
  cases hy with
  | ask hS hy =>
  cases hy with
  | ask hn hy =>
   obtain ⟨es, he⟩ := hS
   rw [PVR, he] at hp
   rw [he] at hn
   obtain ⟨ad, cap, ess, rfl, g1, g2, g3, g4, g5, g6⟩ := hp.flat hn
   exact ⟨_, _, hy, ad, _, cap, ess, rfl, g3, g1, g4.mono (fragX_frag w _), rfl, g5, by rw [he]; exact g6⟩
 ·cases hy
theorem ok_append {c : Call} {t e : TypeId} {T E : TI} (hc : c.callee = .builtin .append) (ht : c.argTypes.toList = [t, t]) (hT : TyI P t T) (hk : T.k = .sl e) (hE : TyI P e E) (h0 : ¬ (E.size = 0 ∨ E.bytes = 0)) {vals : List PV} : OpOk P G i (.call c) vals (pAppend i e E vals) := by
 obtain ⟨hu, he⟩ := elem_of hT hk
 have hS : SliceT P t e E.zv E.size E.bytes := ⟨hu, by
  have := hE.info
  cases hq : P.info? e with
  | none => simp [hq] at this
  | some j => simp [hq] at this ⊢; exact ⟨this.2.2, this.1, this.2.1⟩, by rw [hE.cells]; simp [zsV, hE.len], by omega, by omega⟩
 have hcc : ∀ {p q : PV} {N : Nm} {h : Frag} {a : Act}, PVRs N h [p, q] ((Op.call c).operands.toList.map a.eval) → ∃ s x, c = { callee := .builtin .append, args := #[s, x], argTypes := #[t, t] } ∧ PVR N h p (a.eval s) ∧ PVR N h q (a.eval x) := fun {p q N h a} hv => by
  obtain ⟨u, v, hw, h1, h2⟩ := hv.two
  obtain ⟨cl, ar, at_⟩ := c
  simp only at hc ht
  subst hc
  rw [args_of rfl] at hw
  simp only [Array.toList_map] at hw
  obtain ⟨l⟩ := ar
  obtain ⟨l2⟩ := at_
  simp only at ht hw
  subst ht
  match l, hw with
  | [s, x], hw =>
   simp at hw
   obtain ⟨rfl, rfl⟩ := hw
   exact ⟨s, x, rfl, h1, h2⟩
 unfold pAppend
 split
 ·rename_i r k px
  intro F Xp dm dm' w0 w N M o a next Q ef l l' h1 h2 h3 h4 h5 hy K
  obtain ⟨s, x, rfl, hs, hx⟩ := hcc h3
  cases hy with
  | @obj _ ob _ _ _ _ hM hy =>
   cases ob with
   | blk => cases hy
   | row k' t' n' es =>
    dsimp only at hy
    split at hy
    ·rename_i hkk
     obtain ⟨rfl, rfl, rfl⟩ := hkk
     obtain ⟨es2, l1, hy, ad, m, cc, ess2, e1, g1, g2, g3, g4, g5, g6⟩ := elems_yl h2 hx hy
     cases hy with
     | ask hle hy =>
     cases hy
     rw [PVR] at hs
     have hob := h2.obj _ _ hM
     obtain ⟨v, ess, hV, how, hds, hes⟩ := hob
     rw [hs.1] at hV
     have hV' : a.eval s = v := Option.some.inj hV
     have hi := h5 i (by simp [names])
     refine wp_append_opt hS s x h1 hV' how e1 g1 g2 g3 (by rw [flatten_len g5, g4]) (fun u hu => ?_) (by rw [← g4, g6.len]; exact hle) (Nat.zero_le _) (fun v' w' q1 q2 q3 => ?_)
     ·obtain ⟨ws, hws, hu⟩ := List.mem_flatten.1 hu
      obtain ⟨j, hj, rfl⟩ := List.mem_iff_getElem.1 hws
      have hj' : j < (es2 ()).length := by rw [← g6.len]; exact hj
      obtain ⟨ws', hws', hd⟩ := g6.at (List.getElem?_eq_getElem hj')
      rw [List.getElem?_eq_getElem hj] at hws'; cases hws'
      exact hd.ones u hu
     ·have hlen : (es () ++ es2 ()).length = (es ()).length + m := by rw [List.length_append, ← g4, g6.len]
      obtain ⟨r1, r2⟩ := h2.row h4 (r := r) (k := i) (t := t') (n := E.size) (es := fun _ => es () ++ es2 ()) (ess := ess ++ ess2) (v := v') hi.1 hi.2 (h4 _ (h2.in_dm hM)) v.ownBlock q2 (fun g hg => ⟨_, hM, by rw [adr, hs.1, hV']; exact hg⟩) (by
       rcases q3 with q3 | q3
       ·exact .inl q3
       ·exact .inr ⟨_, q3, Nat.le_refl _⟩) (by rw [hlen, List.flatten_append]; exact q1) (hds.app g6) (fun e he => by
       rcases List.mem_append.1 he with he | he
       ·exact hes e he
       ·exact g5 e he)
      refine K _ _ _ (Nm.up_setV ((h2.dom i hi.1).2 r).1 hi.1) r1 r2 ?_
      rw [PVR]
      exact ⟨by show (if r = r ∧ i = i then some _ else _) = _; rw [if_pos ⟨rfl, rfl⟩], own_one q1⟩
    ·cases hy
 ·rename_i ss px
  refine ok_ask fun hnil => ?_
  intro F Xp dm dm' w0 w N M o a next Q ef l l' h1 h2 h3 h4 h5 hy K
  obtain ⟨s, x, rfl, hs, hx⟩ := hcc h3
  obtain ⟨es2, l1, hy, ad, m, cc, ess2, e1, g1, g2, g3, g4, g5, g6⟩ := elems_yl h2 hx hy
  cases hy with
  | ask hle hy =>
  cases hy
  have hi := h5 i (by simp [names])
  have hk1 := h5 (i + 1) (by simp [names])
  have hlen : (es2 ()).length = m := by rw [← g4, g6.len]
  refine wp_append_opt hS s x h1 (hs.dLit hnil) (World.ownsRow_nil w 0 e E.size) e1 g1 g2 g3 (by rw [flatten_len g5, g4]) (fun u hu => ?_) (by rw [Nat.zero_add, ← hlen]; exact hle) (Nat.zero_le _) (fun v' w' q1 q2 q3 => ?_)
  ·obtain ⟨ws, hws, hu⟩ := List.mem_flatten.1 hu
   obtain ⟨j, hj, rfl⟩ := List.mem_iff_getElem.1 hws
   have hj' : j < (es2 ()).length := by rw [← g6.len]; exact hj
   obtain ⟨ws', hws', hd⟩ := g6.at (List.getElem?_eq_getElem hj')
   rw [List.getElem?_eq_getElem hj] at hws'; cases hws'
   exact hd.ones u hu
  ·obtain ⟨r1, r2⟩ := h2.row h4 (r := i) (k := i + 1) (t := e) (n := E.size) (es := es2) (ess := ess2) (v := v') hk1.1 hk1.2 hi.2 none q2 (fun g hg => by cases hg) (by
    rcases q3 with q3 | q3
    ·exact .inl q3
    ·exact .inr ⟨_, q3, Nat.le_refl _⟩) (by rw [hlen]; simpa using q1) g6 g5
   refine K _ _ _ (Nm.up_setV ((h2.dom (i + 1) hk1.1).2 i).1 hk1.1) r1 r2 ?_
   rw [PVR]
   exact ⟨by show (if i = i ∧ i + 1 = i + 1 then some _ else _) = _; rw [if_pos ⟨rfl, rfl⟩], own_one q1⟩
 ·exact ok_fail
def OpM (P : Program) (G : List (Nat × List DV)) (M : Nat → Option Ob) (i : Nat) (op : Op) (vals : List PV) (t : Tr Eff) : Prop :=
 ∀ (F Xp dm dm' : Nat → Prop) (w0 w : World) (N : Nm) (o : Oper) (a : Act) (next : Act → World → Prop) (Q : Exit → Act → World → Prop) (e : Eff) (l l' : List Nat),
  o.op = op → Mem G F Xp dm w0 N M w → PVRs N (rd F N M w) vals (op.operands.toList.map a.eval) → (∀ b, dm b → dm' b) → (∀ b ∈ names i, ¬ dm b ∧ dm' b) → Yl P G M t l l' e → Kont G F Xp dm dm' w0 N M w o a next e → o.wp P a w next Q
theorem OpOk.of {op : Op} {vals : List PV} {t : Tr Eff} (h : ∀ M, OpM P G M i op vals t) : OpOk P G i op vals t := fun F Xp dm dm' w0 w N M o a next Q e l l' h1 h2 h3 h4 h5 hy K => h M F Xp dm dm' w0 w N o a next Q e l l' h1 h2 h3 h4 h5 hy K
section
variable {M : Nat → Option Ob} {op : Op} {vals : List PV}
theorem opM_fail {n : Nat} : OpM P G M i op vals (.fail n) := fun _ _ _ _ _ _ _ _ _ _ _ _ _ _ _ _ _ _ _ hy _ => by cases hy
theorem opM_obj {b : Nat} {k : Ob → Tr Eff} (h : ∀ o, M b = some o → OpM P G M i op vals (k o)) : OpM P G M i op vals (.obj b k) := fun F Xp dm dm' w0 w N o a next Q e l l' h1 h2 h3 h4 h5 hy K => by
 cases hy with
 | obj hM hy => exact h _ hM F Xp dm dm' w0 w N o a next Q e _ l' h1 h2 h3 h4 h5 hy K
theorem gather_ok : ∀ (n : Nat) (todo : List Nat) (H : List (Nat × Ob)) (k : List (Nat × Ob) → Tr Eff), (∀ b o, lk H b = some o → M b = some o) → (∀ H, (∀ b o, lk H b = some o → M b = some o) → OpM P G M i op vals (k H)) → OpM P G M i op vals (gather n todo H k)
 | 0, _, _, _, _, _ => by unfold gather; exact opM_fail
 | n + 1, [], H, k, hH, hk => by unfold gather; exact hk H hH
 | n + 1, b :: r, H, k, hH, hk => by
  unfold gather
  split
  ·exact gather_ok n r H k hH hk
  ·refine opM_obj fun o ho => gather_ok n _ _ k (fun b' o' h => ?_) hk
   unfold lk at h
   split at h
   ·rename_i e
    cases h; subst e; exact ho
   ·exact hH b' o' h
def Viewed (G : List (Nat × List DV)) (M : Nat → Option Ob) (l l' : List PV) (fl : Bool) : Prop := (fl = false → l' = l) ∧
 ∀ (F Xp dm : Nat → Prop) (w0 w : World) (N : Nm) (us : List Value), Mem G F Xp dm w0 N M w → PVRs N (rd F N M w) l us → PVRs N (fragX w F) l' us
theorem rd_le (F : Nat → Prop) (N : Nm) (M : Nat → Option Ob) (w : World) : FLe (rd F N M w) (fragX w F) := fun k o h => by
 obtain ⟨h1, h2⟩ := fragX_some h
 exact fragX_of (fun hF => h1 (.inl hF)) h2
theorem Viewed.cons {l l' : List PV} {fl : Bool} (h : Viewed G M l l' fl) (x : PV) : Viewed G M (x :: l) (x :: l') fl := ⟨fun e => by rw [h.1 e], fun F Xp dm w0 w N us H hp => by
 obtain ⟨v, vs, rfl, h1, h2⟩ := hp.cons
 rw [PVRs]; exact ⟨v, vs, rfl, PVR.mono (Nm.le.refl N) (rd_le F N M w) _ _ h1, h.2 F Xp dm w0 w N vs H h2⟩⟩
theorem Viewed.own {l l' : List PV} {fl : Bool} {r v n : Nat} {t : TypeId} {es : Unit → List (List DV)} (h : Viewed G M l l' fl) (hM : M r = some (.row v t n es)) : Viewed G M (.own r v :: l) (.d (fun _ => .sl (es ())) :: l') true := ⟨fun e => (by cases e), fun F Xp dm w0 w N us H hp => by
 obtain ⟨u, vs, rfl, h1, h2⟩ := hp.cons
 rw [PVRs]; refine ⟨u, vs, rfl, ?_, h.2 F Xp dm w0 w N vs H h2⟩
 have h1 : N.V r v = some u ∧ u.oneCell' = true := by rw [PVR] at h1; exact h1
 show DR (fragX w F) (.sl (es ())) u
 obtain ⟨v', ess, hV, how, hds, hes⟩ := H.obj _ _ hM
 have hV0 := hV
 rw [h1.1] at hV; cases hV
 rw [DR]
 obtain ⟨ad, cap, e1, q1, q2, q3, q4⟩ := HRow.of_owns (E := []) how (by cases hb : u.ownBlock with
  | none => exact .inl rfl
  | some k => exact .inr (by simp))
 rw [fragE_nil] at q1
 refine ⟨n, ess, ⟨ad, cap, by rw [hds.len]; exact e1, by rw [hds.len]; exact q2, q3, q4, ?_, hes⟩, DRss.mono (rd_le F N M w) _ _ hds⟩
 rcases q1 with q1 | ⟨b, off, cur, t', fr, rfl, hb, hcc⟩
 ·exact .inl q1
 ·refine .inr ⟨b, off, cur, t', fr, rfl, fragX_of (fun hF => ?_) hb, hcc⟩
  subst e1
  exact (H.at_ r _ b hM (by rw [adr, hV0]; rfl)).1 hF⟩
theorem viewC_ok : ∀ (l : List PV) (k : List PV → Bool → Tr Eff), (∀ l' fl, Viewed G M l l' fl → OpM P G M i op vals (k l' fl)) → OpM P G M i op vals (viewL.viewC l k)
 | [], k, hk => by
  unfold viewL.viewC
  exact hk _ _ ⟨fun _ => rfl, fun F Xp dm w0 w N us H hp => by rw [PVRs] at hp ⊢; exact hp⟩
 | p :: l, k, hk => by
  have other : OpM P G M i op vals (viewL.viewC l fun l' f => k (p :: l') f) := viewC_ok l _ fun l' fl h => hk _ _ (h.cons p)
  cases p with
  | own r v =>
   unfold viewL.viewC
   refine opM_obj fun o ho => ?_
   cases o with
   | blk => exact opM_fail
   | row v' t n es =>
    dsimp only
    split
    ·rename_i e; subst e
     exact viewC_ok l _ fun l' fl h => hk _ _ (h.own ho)
    ·exact opM_fail
  | _ => unfold viewL.viewC; exact other
theorem viewL_ok : ∀ (l : List PV) (k : List PV → Bool → Tr Eff), (∀ l' fl, Viewed G M l l' fl → OpM P G M i op vals (k l' fl)) → OpM P G M i op vals (viewL l k)
 | [], k, hk => by
  unfold viewL
  exact hk _ _ ⟨fun _ => rfl, fun F Xp dm w0 w N us H hp => by rw [PVRs] at hp ⊢; exact hp⟩
 | p :: l, k, hk => by
  have other : OpM P G M i op vals (viewL l fun l' f => k (p :: l') f) := viewL_ok l _ fun l' fl h => hk _ _ (h.cons p)
  cases p with
  | own r v =>
   unfold viewL
   refine opM_obj fun o ho => ?_
   cases o with
   | blk => exact opM_fail
   | row v' t n es =>
    dsimp only
    split
    ·rename_i e; subst e
     exact viewL_ok l _ fun l' fl h => hk _ _ (h.own ho)
    ·exact opM_fail
  | agg cs =>
   unfold viewL
   refine viewC_ok cs _ fun cs' f hc => viewL_ok l _ fun l' f' hl => hk _ _ ⟨fun e => ?_, fun F Xp dm w0 w N us H hp => ?_⟩
   ·cases f <;> cases f' <;> first | (cases e; done) | rw [hc.1 rfl, hl.1 rfl]
   ·obtain ⟨u, vs, rfl, h1, h2⟩ := hp.cons
    rw [PVR] at h1
    obtain ⟨ws, rfl, q1, q2⟩ := h1
    rw [PVRs]
    exact ⟨_, vs, rfl, by rw [PVR]; exact ⟨ws, rfl, hc.2 F Xp dm w0 w N ws H q1, q2⟩, hl.2 F Xp dm w0 w N vs H h2⟩
  | _ => unfold viewL; exact other
end
end
end Go.Proofs.YtlmbcoecipbblaaGreatDoor
namespace Go.Proofs.YtlmbcoecipbblaaGreatDoor
open Go.RowKit
section
variable {P : Program} {ti : Tb} {G : List (Nat × List DV)} {i : Nat} {M : Nat → Option Ob}
theorem call_run {c : Call} {fo : Operand} {o : Oper} {a : Act} {f : FuncId} {vs ws : List Value} (ho : o.op = .call c) (hc : c.callee = .value fo) (hf : a.eval fo = .func (.func f) vs.toArray ws.toArray)
  (hfn : ∃ fn, P.funcs[f]? = some fn ∧ fn.body.isSome = true ∧ (fn.name == "runtime.NumGoroutine") = false) (w : World) : (execOp a.eval o).run P w = .ok (.enter f (vs ++ c.args.toList.map a.eval ++ ws).toArray) w := by
 obtain ⟨fn, h1, h2, h3⟩ := hfn
 have h4 : fn.body.isNone = false := by cases hb : fn.body <;> simp [hb] at h2 ⊢
 simp only [execOp, ho, resolve, hc, hf, Deferred.ofValue, invoke, callFunc, Sem.run_bind, Sem.run_pure, Result.andThen_ok, run_program, h1]
 rw [if_neg (by rw [h3]; decide), if_neg (by rw [h4]; decide)]
 simp only [Sem.run_pure]
 congr 2
 apply Array.ext'
 simp
theorem call_wp {c : Call} {fo : Operand} {o : Oper} {a : Act} {f : FuncId} {vs ws : List Value} {w : World} {next : Act → World → Prop} {Q : Exit → Act → World → Prop} (ho : o.op = .call c) (hc : c.callee = .value fo) (hf : a.eval fo = .func (.func f) vs.toArray ws.toArray)
  (hfn : ∃ fn, P.funcs[f]? = some fn ∧ fn.body.isSome = true ∧ (fn.name == "runtime.NumGoroutine") = false) {R : Value → World → Prop} (h : Calls P f (vs ++ c.args.toList.map a.eval ++ ws).toArray w (fun e w' => ∃ v, e = .returned v ∧ R v w')) (hn : ∀ v w', R v w' → next (a.put o.dst v) w') : o.wp P a w next Q := by
 unfold Oper.wp
 rw [call_run ho hc hf hfn]
 exact Calls.mono h (fun e w' ⟨v, he, hr⟩ => by subst he; exact hn v w' hr)
theorem held_nil (F : Nat → Prop) (N : Nm) (g : Nat) : held F N (lk []) g ↔ F g := by
 constructor
 ·intro h
  rcases h with h | ⟨b, ob, h, _⟩
  ·exact h
  ·cases h
 ·exact .inl
theorem rd_nil (F : Nat → Prop) (N : Nm) (w : World) : rd F N (lk []) w = fragX w F := by
 have : held F N (lk []) = F := funext fun g => propext (held_nil F N g)
 unfold rd; rw [this]
theorem rel_append {N : Nm} {h : Frag} {xs xs0 ys : List PV} {vs us ws : List Value} (h1 : PVRs N h xs vs) (h2 : PVRs N h xs0 us) (h3 : PVRs N h ys ws) : PVRs N h (xs ++ xs0 ++ ys) (vs ++ us ++ ws) := (h1.app h2).app h3
theorem ovr_of_map (f : Nat → Option Ob) : ∀ (l : List Nat) (M : Nat → Option Ob) (b : Nat), ovr M (l.map fun x => (x, f x)) b = if b ∈ l then f b else M b
 | [], M, b => by simp [ovr]
 | x :: r, M, b => by
  rw [List.map_cons, ovr, ovr_of_map f r]
  by_cases h : b ∈ r
  ·simp [h]
  ·simp only [h, if_false, List.mem_cons, or_false]
   by_cases e : b = x
   ·subst e; rfl
   ·rw [if_neg e, if_neg e]
theorem lk_mem {α : Type} : ∀ (l : List (Nat × α)) (b : Nat), (∃ x, lk l b = some x) ↔ b ∈ l.map (·.1)
 | [], b => by simp [lk]
 | (j, x) :: r, b => by
  unfold lk
  rw [List.map_cons, List.mem_cons]
  by_cases h : j = b
  ·simp [h]
  ·rw [if_neg h, lk_mem r b]; simp [Ne.symm h]
theorem ovr_back (H H' : List (Nat × Ob)) (M : Nat → Option Ob) (b : Nat) : ovr M (back H H') b = if b ∈ H.map (·.1) ∨ b ∈ H'.map (·.1) then lk H' b else M b := by
 unfold back
 rw [ovr_of_map (lk H')]
 simp only [List.mem_append]
theorem opM_callV {c : Call} {fo : Operand} {f : FuncId} {xs ys xs0 xs1 : List PV} {fl : Bool} (hc : c.callee = .value fo) (hV : Viewed G M (xs ++ xs0 ++ ys) xs1 fl) {fr : List Nat} (hfr : ∀ b ∈ fr, b ∈ names i) : OpM P G M i (.call c) (.fn (.func f) xs ys :: xs0) (.call f xs1 [] fr fun r H' => match H' with
    | [] => .ask (fun _ => PureP r) (.ret (val r))
    | _ => .fail 23) := fun F Xp dm dm' w0 w N o a next Q e l l' h1 h2 h3 h4 h5 hy K => by
 have hops : (Op.call c).operands.toList.map a.eval = a.eval fo :: c.args.toList.map a.eval := by simp [Op.operands, Call.operands, hc]
 rw [hops] at h3
 obtain ⟨u, us, e1, hf, hr⟩ := h3.cons
 obtain ⟨e0, e2⟩ := List.cons.inj e1
 subst e2
 rw [PVR] at hf
 obtain ⟨vs, ws, e3, hxs, hys⟩ := hf
 cases hy with
 | @call _ _ _ _ _ r H' _ _ _ hrun hy =>
  cases H' with
  | cons => cases hy
  | nil =>
   dsimp only at hy
   cases hy with
   | ask hpure hy =>
   cases hy
   have hM0 : Mem G F (fun _ => False) dm w N (lk []) w := ⟨Ext.refl _ w, fun g hg => Nat.lt_of_lt_of_le (h2.flt g hg) h2.ext.size, fun b ob h => (by cases h), fun b b' ob ob' g h => (by cases h), fun b ob g h => (by cases h), h2.dom, fun g cs hg => by
    rw [rd_nil]
    exact (h2.glob g cs hg).mono (rd_le F N M w)⟩
   have hargs : PVRs N (rd F N (lk []) w) xs1 (vs ++ c.args.toList.map a.eval ++ ws) := by
    rw [rd_nil]; exact hV.2 F Xp dm w0 w N _ h2 (rel_append hxs hr hys)
   refine call_wp (R := fun v w' => ∃ N', Nm.up dm N N' ∧ Mem G F (fun _ => False) (fun b => dm b ∨ b ∈ fr) w N' (lk []) w' ∧ PVR N' (rd F N' (lk []) w') r v) h1 hc (e0.trans e3) hrun.1 (Calls.mono (hrun.2 F (fun _ => False) dm N w _ (fun b hb => (h5 b (hfr b hb)).1) hM0 hargs) (fun e w' ⟨v, N', q1, q2, q3, q4⟩ => ⟨v, q1, N', q2, q3, q4⟩)) (fun v w' ⟨N', q2, q3, q4⟩ => ?_)
   obtain ⟨s1, s2⟩ := h2.step (dm' := dm') (W := fun _ => False) (M' := M) (N' := N') (w' := w') ⟨q3.ext.os, q3.ext.tape, q3.ext.output, q3.ext.size, fun k hk hn => q3.ext.block k hk id⟩ q2.le (fun _ _ => rfl) (fun _ _ _ h => h.elim) (fun _ _ _ _ _ h => h.elim) (fun _ _ _ h => h.elim) (fun b hb => q3.dom b (fun h => by
    rcases h with h | h
    ·exact hb (h4 b h)
    ·exact hb (h5 b (hfr b h)).2))
   exact K v w' N' q2 s1 s2 (hpure _ _ _ _ _ q4)
theorem held_split {F : Nat → Prop} {N : Nm} {H : List (Nat × Ob)} (hH : ∀ b o, lk H b = some o → M b = some o) (g : Nat) : held (fun g => F g ∨ ∃ b ob, ¬ b ∈ H.map (·.1) ∧ M b = some ob ∧ adr N b ob = some g) N (lk H) g ↔ held F N M g := by
 constructor
 ·rintro ((h | ⟨b, ob, _, h2, h3⟩) | ⟨b, ob, h2, h3⟩)
  ·exact .inl h
  ·exact .inr ⟨b, ob, h2, h3⟩
  ·exact .inr ⟨b, ob, hH b ob h2, h3⟩
 ·rintro (h | ⟨b, ob, h2, h3⟩)
  ·exact .inl (.inl h)
  ·by_cases hb : b ∈ H.map (·.1)
   ·obtain ⟨o, ho⟩ := (lk_mem H b).2 hb
    have := hH b o ho
    rw [h2] at this; cases this
    exact .inr ⟨b, _, ho, h3⟩
   ·exact .inl (.inr ⟨b, ob, hb, h2, h3⟩)
theorem opM_call {c : Call} {fo : Operand} {f : FuncId} {xs ys xs0 : List PV} {H : List (Nat × Ob)} (hc : c.callee = .value fo) (hH : ∀ b o, lk H b = some o → M b = some o) : OpM P G M i (.call c) (.fn (.func f) xs ys :: xs0) (.call f (xs ++ xs0 ++ ys) H (names i) fun r H' => if H'.all (fun x => (lk H x.1).isSome || (names i).contains x.1) then .ret ⟨r, back H H'⟩ else .fail 25) := fun F Xp dm dm' w0 w N o a next Q e l l' h1 h2 h3 h4 h5 hy K => by
 have hops : (Op.call c).operands.toList.map a.eval = a.eval fo :: c.args.toList.map a.eval := by simp [Op.operands, Call.operands, hc]
 rw [hops] at h3
 obtain ⟨u, us, e1, hf, hr⟩ := h3.cons
 obtain ⟨e0, e2⟩ := List.cons.inj e1
 subst e2
 rw [PVR] at hf
 obtain ⟨vs, ws, e3, hxs, hys⟩ := hf
 cases hy with
 | @call _ _ _ _ _ r H' _ _ _ hrun hy =>
  dsimp only at hy
  split at hy
  ·rename_i hall
   cases hy
   have hnew : ∀ b, b ∈ H'.map (·.1) → b ∈ H.map (·.1) ∨ b ∈ names i := fun b hb => by
    obtain ⟨x, hx, rfl⟩ := List.mem_map.1 hb
    have := List.all_eq_true.1 hall x hx
    rcases Bool.or_eq_true _ _ ▸ this with h | h
    ·left
     cases hq : lk H x.1 with
     | none => rw [hq] at h; cases h
     | some o => exact (lk_mem H x.1).1 ⟨o, hq⟩
    ·right; simpa using h
   let F' : Nat → Prop := fun g => F g ∨ ∃ b ob, ¬ b ∈ H.map (·.1) ∧ M b = some ob ∧ adr N b ob = some g
   let X' : Nat → Prop := fun g => ∃ b ob, lk H b = some ob ∧ adr N b ob = some g
   have hheld : held F' N (lk H) = held F N M := funext fun g => propext (held_split hH g)
   have hrd : rd F' N (lk H) w = rd F N M w := by unfold rd; rw [hheld]
   have hM0 : Mem G F' X' dm w N (lk H) w := by
    refine ⟨Ext.refl _ w, fun g hg => ?_, fun b ob h => ?_, fun b b' ob ob' g h h' => h2.apart b b' ob ob' g (hH b ob h) (hH b' ob' h'), fun b ob g h ha => ⟨?_, .inr ⟨b, ob, h, ha⟩⟩, h2.dom, fun g cs hg => by rw [hrd]; exact h2.glob g cs hg⟩
    ·rcases hg with hg | ⟨b, ob, _, hb, ha⟩
     ·exact Nat.lt_of_lt_of_le (h2.flt g hg) h2.ext.size
     ·exact (h2.obj b ob hb).lt ha
    ·rw [hrd]; exact h2.obj b ob (hH b ob h)
    ·rintro (hg | ⟨b', ob', hn, hb', ha'⟩)
     ·exact (h2.at_ b ob g (hH b ob h) ha).1 hg
     ·have := h2.apart b b' ob ob' g (hH b ob h) hb' ha ha'
      subst this
      exact hn ((lk_mem H b).1 ⟨ob, h⟩)
   have hargs : PVRs N (rd F' N (lk H) w) (xs ++ xs0 ++ ys) (vs ++ c.args.toList.map a.eval ++ ws) := by
    rw [hrd]; exact rel_append hxs hr hys
   refine call_wp (R := fun v w' => ∃ N', Nm.up dm N N' ∧ Mem G F' X' (fun b => dm b ∨ b ∈ names i) w N' (lk H') w' ∧ PVR N' (rd F' N' (lk H') w') r v) h1 hc (e0.trans e3) hrun.1 (Calls.mono (hrun.2 F' X' dm N w _ (fun b hb => (h5 b hb).1) hM0 hargs) (fun e w' ⟨v, N', q1, q2, q3, q4⟩ => ⟨v, q1, N', q2, q3, q4⟩)) (fun v w' ⟨N', q2, q3, q4⟩ => ?_)
   let W : Nat → Prop := fun b => b ∈ H.map (·.1) ∨ b ∈ H'.map (·.1)
   have hMM : ∀ b, ovr M (back H H') b = if W b then lk H' b else M b := fun b => ovr_back H H' M b
   have hMn : ∀ b, b ∈ names i → M b = none := fun b hb => by
    cases hm : M b with
    | none => rfl
    | some ob => exact absurd (h2.in_dm hm) (h5 b hb).1
   have hW1 : ∀ b, W b → ¬ b ∈ H.map (·.1) → M b = none := fun b hb hn => by
    rcases hb with hb | hb
    ·exact absurd hb hn
    ·exact hMn b ((hnew b hb).resolve_left hn)
   have hle : FLe (rd F' N' (lk H') w') (rd F N' (ovr M (back H H')) w') := fun k o hk => by
    obtain ⟨g1, g2⟩ := fragX_some hk
    refine fragX_of (fun hX => g1 ?_) g2
    rcases hX with hX | ⟨b, ob, hb, ha⟩
    ·exact .inl (.inl hX)
    ·rw [hMM] at hb
     split at hb
     ·exact .inr ⟨b, ob, hb, ha⟩
     ·rename_i hW
      refine .inl (.inr ⟨b, ob, fun h => hW (.inl h), hb, ?_⟩)
      rw [(h2.obj b ob hb).adr_le q2.le] at ha; exact ha
   obtain ⟨s1, s2⟩ := h2.step (dm' := dm') (W := W) (M' := ovr M (back H H')) (N' := N') (w' := w') ⟨q3.ext.os, q3.ext.tape, q3.ext.output, q3.ext.size, fun k hk hn => q3.ext.block k hk (fun ⟨b, ob, g1, g2⟩ => hn ⟨b, ob, .inl ((lk_mem H b).1 ⟨ob, g1⟩), hH b ob g1, g2⟩)⟩ q2.le
    (fun b hb => by rw [hMM, if_neg hb])
    (fun b ob g hb hm ha => by
     rw [hMM, if_pos hb] at hm
     rcases (q3.at_ b ob g hm ha).2 with h | ⟨b0, ob0, g1, g2⟩
     ·exact .inl h
     ·exact .inr ⟨b0, ob0, .inl ((lk_mem H b0).1 ⟨ob0, g1⟩), hH b0 ob0 g1, g2⟩)
    (fun b b' ob ob' g hb hb' hm hm' ha ha' => by
     rw [hMM, if_pos hb] at hm; rw [hMM, if_pos hb'] at hm'
     exact q3.apart b b' ob ob' g hm hm' ha ha')
    (fun _ b ob hb hm => by
     rw [hMM, if_pos hb] at hm
     exact (q3.obj b ob hm).keep (Nm.le.refl _) hle (fun _ _ => rfl))
    (fun b hb => q3.dom b (fun h => by
     rcases h with h | h
     ·exact hb (h4 b h)
     ·exact hb (h5 b h).2))
   exact K v w' N' q2 s1 s2 (PVR.mono (Nm.le.refl _) hle _ _ q4)
  ·cases hy
theorem ok_call {c : Call} {fo : Operand} {f : FuncId} {xs ys xs0 : List PV} (hc : c.callee = .value fo) : OpOk P G i (.call c) (.fn (.func f) xs ys :: xs0) (pCall i f (xs ++ xs0 ++ ys)) := .of fun M => by
 unfold pCall
 refine viewL_ok _ _ fun l' fl hV => gather_ok 40 _ [] _ (fun b o h => by cases h) fun H hH => ?_
 split
 ·split
  ·exact opM_callV hc hV (fun _ h => h)
  ·exact opM_fail
 ·rename_i hfl
  rw [hV.1 (by simpa using hfl)]
  exact opM_call hc hH
theorem core_ok (hti : TyOk P ti) (op : Op) (vals : List PV) : OpOk P G i op vals (core ti i op vals) := by
 unfold core
 split
 ·exact ok_move
 ·exact ok_assign
 ·exact ok_ask fun h => ok_pick h
 ·exact ok_pickb
 ·exact ok_opt fun T hT => ok_alloc (hti _ _ hT)
 ·exact ok_opt fun cs h => ok_box h
 ·refine ok_opt fun T hT => ?_
  split
  ·rename_i fs hk
   exact ok_opt fun pl hpl => ok_opt fun cs hf => ok_build hti (hti _ _ hT) hk hpl hf
  ·exact ok_fail
 ·refine ok_opt fun T hT => ?_
  split
  ·rename_i e hk
   refine ok_opt fun E hE => ?_
   split
   ·rename_i hc
    exact ok_opt fun l hf => ok_buildSlice (hti _ _ hT) hk (hti _ _ hE) hc.1 hc.2.1 hc.2.2 hf
   ·exact ok_fail
  ·exact ok_fail
 ·exact ok_opt fun T hT => ok_load (hti _ _ hT)
 ·exact ok_opt fun T hT => ok_store (hti _ _ hT)
 ·exact ok_nil
 ·exact ok_opt fun T hT => ok_bin (hti _ _ hT)
 ·exact ok_unOp
 ·exact ok_convert
 ·exact ok_index
 ·refine ok_opt fun T hT => ?_
  split
  ·exact ok_fail
  ·rename_i hk
   refine ok_ifc (hti _ _ hT) (fun h => hk h) _ fun N h v hp => ?_
   rw [PVR] at hp ⊢
   rw [DR]; exact ⟨v, rfl, hp⟩
  ·rename_i hk
   refine ok_ifc (hti _ _ hT) (fun h => hk h) _ fun N h v hp => ?_
   rw [PVR]; exact ⟨v, rfl, hp⟩
  ·exact ok_fail
 ·exact ok_makeFunc
 ·refine ok_opt fun T hT => ?_
  split
  ·rename_i e hk
   exact ok_opt fun E hE => ok_slice (hti _ _ hT) hk (hti _ _ hE)
  ·refine ok_run fun o a us ho hus hl w => ?_
   rename_i lo hi _ _
   cases lo <;> cases hi <;> (subst hus; simp [execOp, ho, Op.operands])
 ·refine ok_opt fun T hT => ?_
  split
  ·rename_i fs hk
   refine ok_opt fun ⟨off, u⟩ hj => ok_opt fun U hU => ?_
   split
   ·exact ok_fail
   ·rename_i h0
    exact ok_fieldAddr (hti _ _ hT) hk hj (hti _ _ hU) h0
  ·exact ok_fail
 ·refine ok_opt fun T hT => ?_
  split
  ·rename_i fs hk
   exact ok_opt fun ⟨off, u⟩ hj => ok_opt fun U hU => ok_field (hti _ _ hT) hk hj (hti _ _ hU)
  ·exact ok_fail
 ·refine ok_opt fun T hT => ?_
  split
  ·rename_i e hk
   refine ok_opt fun E hE => ?_
   split
   ·exact ok_fail
   ·rename_i h0
    exact ok_indexAddr (hti _ _ hT) hk (hti _ _ hE) h0
  ·exact ok_fail
 ·exact ok_opt fun x hx => ok_extract hx
 ·rename_i c
  split
  ·rename_i hc
   split
   ·rename_i t ht
    exact ok_opt fun T hT => ok_len hc ht (hti _ _ hT)
   ·exact ok_fail
  ·rename_i hc
   split
   ·rename_i t t' ht
    split
    ·rename_i e; subst e
     refine ok_opt fun T hT => ?_
     split
     ·rename_i e hk
      refine ok_opt fun E hE => ?_
      split
      ·exact ok_fail
      ·rename_i h0
       exact ok_append hc ht (hti _ _ hT) hk (hti _ _ hE) h0
     ·exact ok_fail
    ·exact ok_fail
   ·exact ok_fail
  ·rename_i hc; exact ok_mm (mn := true) hc
  ·rename_i hc; exact ok_mm (mn := false) hc
  ·rename_i fo hc
   split
   ·exact ok_call hc
   ·exact ok_fail
  ·exact ok_fail
 ·exact ok_fail
theorem unb_ok {N : Nm} {h : Frag} : ∀ {vs : List PV} {us : List Value}, PVRs N h vs us → PVRs N h (vs.map unb) us
 | [], us, hp => by rw [List.map_nil]; exact hp
 | p :: r, us, hp => by
  obtain ⟨u, us', rfl, h1, h2⟩ := hp.cons
  rw [List.map_cons, PVRs]
  refine ⟨u, us', rfl, ?_, unb_ok h2⟩
  cases p with
  | b v =>
   rw [PVR] at h1
   show DR h (.lit (.bool v)) u
   rw [DR]; exact ⟨h1, rfl⟩
  | _ => exact h1
theorem core_ok' (hti : TyOk P ti) (op : Op) (vals : List PV) : OpOk P G i op vals (core' ti i op vals) := by
 unfold core'
 split
 ·exact core_ok hti op vals
 ·exact fun F Xp dm dm' w0 w N M o a next Q e l l' h1 h2 h3 h4 h5 hy K => core_ok hti op _ F Xp dm dm' w0 w N M o a next Q e l l' h1 h2 (unb_ok h3) h4 h5 hy K
end
end Go.Proofs.YtlmbcoecipbblaaGreatDoor
