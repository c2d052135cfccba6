/- Package syntax, walked: a file under way: its block, its two rows. -/
import Derived.Test.YtpcfdngnmigkfaaGreatDoorSxHead
import Derived.Test.YtpcfdngnmigkfaaGreatDoorSxSmall
set_option linter.unusedVariables false
set_option linter.unusedSimpArgs false
namespace Go.Proofs.YtpcfdngnmigkfaaGreatDoor
open Go.RowKit
structure LV where
 pack : Lx.Bs
 v1 : Value
 v2 : Value
 ms : List Sx.Msg
 es : List Sx.Enm
 mss : List (List Value)
 ess : List (List Value)
def LV.cells (m : LV) : List Value := [.string (toB m.pack), m.v1, m.v2]
def LV.fil (m : LV) : Sx.Fil := ⟨m.pack, m.ms, m.es⟩
def LV.r1 (m : LV) : ORow := ⟨45, 9, m.v1, m.mss.length, m.mss.flatten⟩
def LV.r2 (m : LV) : ORow := ⟨71, 4, m.v2, m.ess.length, m.ess.flatten⟩
def LV.rows (m : LV) : List ORow := [m.r1, m.r2]
structure LFit (ts : List Lx.Tok) (m : LV) (s : Sx.St) : Prop where
 f1 : Sx.Fit ts m.mss.length s
 f2 : Sx.Fit ts m.ess.length s
theorem LFit.go {ts : List Lx.Tok} {m : LV} {s s' : Sx.St} (h : LFit ts m s) (g : Sx.GoesN 0 s s') : LFit ts m s' := ⟨h.f1.go g, h.f2.go g⟩
structure LAt (A : Nat → Addr) (p B gf : Nat) (v : Value) (ts : List Lx.Tok) (w0 : World) (s : Sx.St) (m : LV) (w : World) : Prop where
 par : Par A p v ts s w
 env : Env A p v ts w
 blk : Blk w gf m.cells
 rows : Rows B w m.rows
 rm : MsgsR (fragU w B (obs m.rows)) m.ms m.mss
 re : EnsR (fragU w B (obs m.rows)) m.es m.ess
 kept : KeptB B [p, gf] w0 w
 lts : p < gf ∧ gf < B ∧ B ≤ w.heap.size
 fit : LFit ts m s
theorem LAt.call {A : Nat → Addr} {p B gf : Nat} {v : Value} {ts : List Lx.Tok} {w0 w w' : World} {s s' : Sx.St} {m : LV} (h : LAt A p B gf v ts w0 s m w) (hp : Par A p v ts s' w') (hk : Kept [p] w w') (hg : Sx.GoesN 0 s s') : LAt A p B gf v ts w0 s' m w' :=
 have hle : FLe (fragU w B (obs m.rows)) (fragU w' B (obs m.rows)) := fragU_grown hk.grown (fun k e => by cases e; left; have := h.lts; omega) (fun k hk => .inl hk)
 ⟨hp, h.env.kept hk h.par.lt (fun k hm => by rw [List.mem_singleton.1 hm]; exact Nat.le_refl _), hk.blk h.blk (by have := h.lts; simp; omega), h.rows.grown hk.grown (fun k e => by cases e; have := h.lts; omega), h.rm.mono hle, h.re.mono hle,
  h.kept.trans (KeptB.of_kept hk h.lts.2.2 (fun k hm _ => by rw [List.mem_singleton.1 hm]; simp)), ⟨h.lts.1, h.lts.2.1, Nat.le_trans h.lts.2.2 hk.size⟩, h.fit.go hg⟩
theorem LAt.below {A : Nat → Addr} {p B gf : Nat} {v : Value} {ts : List Lx.Tok} {w0 w w' : World} {s : Sx.St} {m : LV} (h : LAt A p B gf v ts w0 s m w) (hb : Below w.heap.size w w') : LAt A p B gf v ts w0 s m w' :=
 h.call (h.par.below hb) (Kept.of_below hb) (Sx.GoesN.refl s)
theorem LAt.blk8 {A : Nat → Addr} {p B gf : Nat} {v : Value} {ts : List Lx.Tok} {w0 w w8 : World} {s : Sx.St} {m : LV} (h : LAt A p B gf v ts w0 s m w) {r : ORow} (hr : r ∈ m.rows) (hg : w.grownBy w8 r.v.ownBlock) : Blk w8 gf m.cells :=
 h.blk.grown hg (fun e => by have h1 := ((h.rows.own r hr).lt gf e.symm).1; have := h.lts; omega)
theorem ErrAt.other2 {A : Nat → Addr} {p g1 : Nat} {w w' : World} {x : Option (Nat × Nat × Nat)} {ev : Value} {t : ByteArray} {cs : List Value} (h : ErrAt A p w x ev) (hB : Blk w g1 (.string t :: cs)) (hg : w.grownBy w' (some g1)) : ErrAt A p w' x ev := by
 cases x with
 | none => exact h
 | some x =>
  obtain ⟨g, e, hb, hne⟩ := h
  refine ⟨g, e, hb.grown hg (fun e => ?_), hne⟩
  cases e
  have := hB.same hb.blk
  cases this
theorem Par.wrote2 {A : Nat → Addr} {p g : Nat} {v : Value} {ts : List Lx.Tok} {s : Sx.St} {w w' : World} {t : ByteArray} {cs : List Value} (hE : Env A p v ts w) (h : Par A p v ts s w) (hB : Blk w g (.string t :: cs)) (hg : w.grownBy w' (some g)) (hgp : p < g) : Par A p v ts s w' ∧ Env A p v ts w' := by
 have hp := h.lt
 have hE' := hE.below (Below.grown (Below.refl _ _) hg (Nat.le_of_lt hp) (fun k e => by cases e; omega))
 obtain ⟨ev, hBp, he, _, hln⟩ := h
 exact ⟨Par.again hE' (hBp.grown hg (fun e => by cases e; omega)) (he.other2 hB hg) hln, hE'⟩
theorem LAt.push {A : Nat → Addr} {p B gf : Nat} {v : Value} {ts : List Lx.Tok} {w0 w w8 w9 : World} {s : Sx.St} {m m' : LV} {L M : List ORow} {r : ORow} {v' : Value} {n' : Nat} {xs' : List Value} (h : LAt A p B gf v ts w0 s m w) (hL : m.rows = L ++ r :: M) (hL' : m'.rows = L ++ ⟨r.ty, r.size, v', n', xs'⟩ :: M) (hne : r.ty ≠ 75)
  (ho : w8.ownsRow B r.ty r.size v' n' xs') (hg : w.grownBy w8 r.v.ownBlock) (hat : v'.ownBlock = r.v.ownBlock ∨ ∃ g, v'.ownBlock = some g ∧ w.heap.size ≤ g) (hB9 : Blk w9 gf m'.cells) (hg9 : w8.grownBy w9 (some gf))
  (hrm : MsgsR (fragU w B (obs m.rows)) m'.ms m'.mss) (hre : EnsR (fragU w B (obs m.rows)) m'.es m'.ess) (hfit : LFit ts m' s) : LAt A p B gf v ts w0 s m' w9 := by
 have hr : r ∈ m.rows := by rw [hL]; simp
 have hown := h.rows.own r hr
 have hge : ∀ k, r.v.ownBlock = some k → B ≤ k := fun k e => (hown.lt k e).1
 obtain ⟨hp8, he8⟩ := Par.rowed h.env h.par hown hne (by have := h.lts; omega) hg
 have hb8 : Blk w8 gf m.cells := h.blk8 hr hg
 obtain ⟨hp9, he9⟩ := Par.wrote2 he8 hp8 (show Blk w8 gf (.string (toB m.pack) :: [m.v1, m.v2]) from hb8) hg9 h.lts.1
 have hrows := h.rows
 rw [hL] at hrows
 obtain ⟨hr8, hf8⟩ := Rows.push hrows ho hg hat
 rw [← hL, ← hL'] at hf8
 rw [← hL'] at hr8
 have hf9 : FLe (fragU w8 B (obs m'.rows)) (fragU w9 B (obs m'.rows)) := fragU_grown hg9 (fun k e => by cases e; left; exact h.lts.2.1) (fun k hk => .inl hk)
 exact ⟨hp9, he9, hB9, hr8.grown hg9 (fun k e => by cases e; exact h.lts.2.1), hrm.mono (hf8.trans hf9), hre.mono (hf8.trans hf9),
  (h.kept.trans (KeptB.of_grown hg h.lts.2.2 (fun k e => .inl (hge k e)))).trans (KeptB.of_grown hg9 (Nat.le_trans h.lts.2.2 hg.size) (fun k e => by cases e; right; simp)), ⟨h.lts.1, h.lts.2.1, Nat.le_trans h.lts.2.2 (Nat.le_trans hg.size hg9.size)⟩, hfit⟩
theorem LAt.push1 {A : Nat → Addr} {p B gf : Nat} {v : Value} {ts : List Lx.Tok} {w0 w w8 w9 : World} {s : Sx.St} {m : LV} {u : Value} {k : Sx.Msg} {cs : List Value} (h : LAt A p B gf v ts w0 s m w) (hfit : Sx.Fit ts (m.mss.length + 1) s) (hk : MsgR (fragU w B (obs m.rows)) k cs)
  (ho : w8.ownsRow B 45 9 u (m.mss.length + 1) (m.mss.flatten ++ cs)) (hg : w.grownBy w8 m.v1.ownBlock) (hat : u.ownBlock = m.v1.ownBlock ∨ ∃ g, u.ownBlock = some g ∧ w.heap.size ≤ g)
  (hB9 : Blk w9 gf { m with v1 := u, ms := m.ms ++ [k], mss := m.mss ++ [cs] }.cells) (hg9 : w8.grownBy w9 (some gf)) : LAt A p B gf v ts w0 s { m with v1 := u, ms := m.ms ++ [k], mss := m.mss ++ [cs] } w9 :=
 h.push (L := []) (M := [m.r2]) (r := m.r1) (v' := u) (n' := m.mss.length + 1) (xs' := m.mss.flatten ++ cs) rfl (by simp [LV.rows, LV.r1, LV.r2]) (show 45 ≠ 75 by decide) ho hg hat hB9 hg9 (MsgsR.snoc hk h.rm) h.re ⟨by simpa using hfit, h.fit.f2⟩
theorem LAt.push2 {A : Nat → Addr} {p B gf : Nat} {v : Value} {ts : List Lx.Tok} {w0 w w8 w9 : World} {s : Sx.St} {m : LV} {u : Value} {k : Sx.Enm} {cs : List Value} (h : LAt A p B gf v ts w0 s m w) (hfit : Sx.Fit ts (m.ess.length + 1) s) (hk : EnmR (fragU w B (obs m.rows)) k cs)
  (ho : w8.ownsRow B 71 4 u (m.ess.length + 1) (m.ess.flatten ++ cs)) (hg : w.grownBy w8 m.v2.ownBlock) (hat : u.ownBlock = m.v2.ownBlock ∨ ∃ g, u.ownBlock = some g ∧ w.heap.size ≤ g)
  (hB9 : Blk w9 gf { m with v2 := u, es := m.es ++ [k], ess := m.ess ++ [cs] }.cells) (hg9 : w8.grownBy w9 (some gf)) : LAt A p B gf v ts w0 s { m with v2 := u, es := m.es ++ [k], ess := m.ess ++ [cs] } w9 :=
 h.push (L := [m.r1]) (M := []) (r := m.r2) (v' := u) (n' := m.ess.length + 1) (xs' := m.ess.flatten ++ cs) rfl (by simp [LV.rows, LV.r1, LV.r2]) (show 71 ≠ 75 by decide) ho hg hat hB9 hg9 h.rm (EnsR.snoc hk h.re) ⟨h.fit.f1, by simpa using hfit⟩
theorem LAt.own1 {A : Nat → Addr} {p B gf : Nat} {v : Value} {ts : List Lx.Tok} {w0 w : World} {s : Sx.St} {m : LV} (h : LAt A p B gf v ts w0 s m w) : w.ownsRow B 45 9 m.v1 m.mss.length m.mss.flatten := h.rows.own m.r1 (by simp [LV.rows])
theorem LAt.own2 {A : Nat → Addr} {p B gf : Nat} {v : Value} {ts : List Lx.Tok} {w0 w : World} {s : Sx.St} {m : LV} (h : LAt A p B gf v ts w0 s m w) : w.ownsRow B 71 4 m.v2 m.ess.length m.ess.flatten := h.rows.own m.r2 (by simp [LV.rows])
theorem LAt.few {A : Nat → Addr} {p B gf : Nat} {v : Value} {ts : List Lx.Tok} {w0 w : World} {s : Sx.St} {m : LV} (h : LAt A p B gf v ts w0 s m w) {n : Nat} (hf : Sx.Fit ts n s) : n ≤ 10000 := by have h1 := hf.2; have h2 := h.env.small.few; omega
theorem LAt.whole2 {A : Nat → Addr} {p B gf g : Nat} {v : Value} {ts : List Lx.Tok} {w0 w w' : World} {s : Sx.St} {m : LV} (h : LAt A p B gf v ts w0 s m w) (hg : w.grownBy w' (some g)) (hgB : g < B) {N : Nat} (hN : N ≤ B) : FilR (fragU w' N []) m.fil m.cells := by
 have hX : ∀ k, some g = some k → k < B := fun k e => by cases e; exact hgB
 have hr := h.rows.grown hg hX
 have hle0 : FLe (fragU w B (obs m.rows)) (fragU w' B (obs m.rows)) := fragU_grown hg (fun k e => .inl (hX k e)) (fun k hk => .inl hk)
 have hle : FLe (fragU w' B (obs m.rows)) (fragU w' N []) := (fragU_sub w' B (E' := []) (fun k hk => by cases hk)).trans (fragU_down w' hN (fun k hk => by cases hk))
 exact ⟨m.v1, m.v2, m.mss, m.ess, rfl, ⟨⟨FlatC.of_ownsU (hr.own m.r1 (by simp [LV.rows])) hN h.rm.sizes, h.few h.fit.f1⟩, ⟨FlatC.of_ownsU (hr.own m.r2 (by simp [LV.rows])) hN h.re.sizes, h.few h.fit.f2⟩⟩, (h.rm.mono hle0).mono hle, (h.re.mono hle0).mono hle⟩
theorem LAt.ones {A : Nat → Addr} {p B gf : Nat} {v : Value} {ts : List Lx.Tok} {w0 w : World} {s : Sx.St} {m : LV} (h : LAt A p B gf v ts w0 s m w) : ∀ u ∈ m.cells, u.oneCell' = true := by
 intro u hu
 simp only [LV.cells, List.mem_cons, List.not_mem_nil, or_false] at hu
 rcases hu with rfl | rfl | rfl
 ·rfl
 ·exact own_one h.own1
 ·exact own_one h.own2
theorem LAt.fresh {A : Nat → Addr} {p B gf : Nat} {v : Value} {ts : List Lx.Tok} {w0 w : World} {s : Sx.St} {m : LV} (h : LAt A p B gf v ts w0 s m w) {w' : World} : FLe (fragU w' w.heap.size []) (fragU w' B (obs m.rows)) :=
 fragU_down w' h.lts.2.2 (fun k hk => (h.rows.ge k hk).2)
end Go.Proofs.YtpcfdngnmigkfaaGreatDoor
