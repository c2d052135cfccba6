/- Package syntax, walked: a message under way: its block, its six rows. -/
import Derived.Test.YtpcfdngnmigkfaaGreatDoorSxEnum
set_option linter.unusedVariables false
set_option linter.unusedSimpArgs false
namespace Go.Proofs.YtpcfdngnmigkfaaGreatDoor
open Go.RowKit
structure MV where
 nm : Lx.Bs
 li : Nat
 co : Nat
 v1 : Value
 v2 : Value
 v3 : Value
 v4 : Value
 v5 : Value
 v6 : Value
 fs : List Sx.Fld
 os : List Lx.Bs
 ms : List Sx.Msg
 es : List Sx.Enm
 rs : List Sx.Rng
 ns : List Lx.Bs
 mss : List (List Value)
 ess : List (List Value)
def MV.cells (m : MV) : List Value := [.string (toB m.nm), m.v1, m.v2, m.v3, m.v4, m.v5, m.v6, .int .i64 m.li, .int .i64 m.co]
def MV.msg (m : MV) : Sx.Msg := .mk m.nm m.fs m.os m.ms m.es m.rs m.ns m.li m.co
def MV.r1 (m : MV) : ORow := ⟨47, 10, m.v1, m.fs.length, m.fs.flatMap fC⟩
def MV.r2 (m : MV) : ORow := ⟨9, 1, m.v2, m.os.length, m.os.flatMap sC⟩
def MV.r3 (m : MV) : ORow := ⟨45, 9, m.v3, m.mss.length, m.mss.flatten⟩
def MV.r4 (m : MV) : ORow := ⟨71, 4, m.v4, m.ess.length, m.ess.flatten⟩
def MV.r5 (m : MV) : ORow := ⟨115, 2, m.v5, m.rs.length, m.rs.flatMap rC⟩
def MV.r6 (m : MV) : ORow := ⟨9, 1, m.v6, m.ns.length, m.ns.flatMap sC⟩
def MV.rows (m : MV) : List ORow := [m.r1, m.r2, m.r3, m.r4, m.r5, m.r6]
structure MFit (ts : List Lx.Tok) (m : MV) (s : Sx.St) : Prop where
 f1 : Sx.Fit ts m.fs.length s
 f2 : Sx.Fit ts m.os.length s
 f3 : Sx.Fit ts m.mss.length s
 f4 : Sx.Fit ts m.ess.length s
 f5 : Sx.Fit ts m.rs.length s
 f6 : Sx.Fit ts m.ns.length s
theorem MFit.go {ts : List Lx.Tok} {m : MV} {s s' : Sx.St} (h : MFit ts m s) (g : Sx.GoesN 0 s s') : MFit ts m s' := ⟨h.f1.go g, h.f2.go g, h.f3.go g, h.f4.go g, h.f5.go g, h.f6.go g⟩
structure MAt (A : Nat → Addr) (p B gm : Nat) (v : Value) (ts : List Lx.Tok) (w0 : World) (s : Sx.St) (m : MV) (w : World) : Prop where
 par : Par A p v ts s w
 env : Env A p v ts w
 blk : Blk w gm m.cells
 rows : Rows B w m.rows
 rm : MsgsR (fragU w B (obs m.rows)) m.ms m.mss
 re : EnsR (fragU w B (obs m.rows)) m.es m.ess
 kept : KeptB B [p, gm] w0 w
 lts : p < gm ∧ gm < B ∧ B ≤ w.heap.size
 fit : MFit ts m s
theorem MAt.call {A : Nat → Addr} {p B gm : Nat} {v : Value} {ts : List Lx.Tok} {w0 w w' : World} {s s' : Sx.St} {m : MV} (h : MAt A p B gm v ts w0 s m w) (hp : Par A p v ts s' w') (hk : Kept [p] w w') (hg : Sx.GoesN 0 s s') : MAt A p B gm v ts w0 s' m w' :=
 have hle : FLe (fragU w B (obs m.rows)) (fragU w' B (obs m.rows)) := fragU_grown hk.grown (fun k e => by cases e; left; have := h.lts; omega) (fun k hk => .inl hk)
 ⟨hp, h.env.kept hk h.par.lt (fun k hm => by rw [List.mem_singleton.1 hm]; exact Nat.le_refl _), hk.blk h.blk (by have := h.lts; simp; omega), h.rows.grown hk.grown (fun k e => by cases e; have := h.lts; omega), h.rm.mono hle, h.re.mono hle,
  h.kept.trans (KeptB.of_kept hk h.lts.2.2 (fun k hm _ => by rw [List.mem_singleton.1 hm]; simp)), ⟨h.lts.1, h.lts.2.1, Nat.le_trans h.lts.2.2 hk.size⟩, h.fit.go hg⟩
theorem MAt.below {A : Nat → Addr} {p B gm : Nat} {v : Value} {ts : List Lx.Tok} {w0 w w' : World} {s : Sx.St} {m : MV} (h : MAt A p B gm v ts w0 s m w) (hb : Below w.heap.size w w') : MAt A p B gm v ts w0 s m w' :=
 h.call (h.par.below hb) (Kept.of_below hb) (Sx.GoesN.refl s)
theorem MAt.blk8 {A : Nat → Addr} {p B gm : Nat} {v : Value} {ts : List Lx.Tok} {w0 w w8 : World} {s : Sx.St} {m : MV} (h : MAt A p B gm v ts w0 s m w) {r : ORow} (hr : r ∈ m.rows) (hg : w.grownBy w8 r.v.ownBlock) : Blk w8 gm m.cells :=
 h.blk.grown hg (fun e => by have h1 := ((h.rows.own r hr).lt gm e.symm).1; have := h.lts; omega)
theorem MAt.push {A : Nat → Addr} {p B gm : Nat} {v : Value} {ts : List Lx.Tok} {w0 w w8 w9 : World} {s : Sx.St} {m m' : MV} {L M : List ORow} {r : ORow} {v' : Value} {n' : Nat} {xs' : List Value} (h : MAt A p B gm v ts w0 s m w) (hL : m.rows = L ++ r :: M) (hL' : m'.rows = L ++ ⟨r.ty, r.size, v', n', xs'⟩ :: M) (hne : r.ty ≠ 75)
  (ho : w8.ownsRow B r.ty r.size v' n' xs') (hg : w.grownBy w8 r.v.ownBlock) (hat : v'.ownBlock = r.v.ownBlock ∨ ∃ g, v'.ownBlock = some g ∧ w.heap.size ≤ g) (hB9 : Blk w9 gm m'.cells) (hg9 : w8.grownBy w9 (some gm))
  (hrm : MsgsR (fragU w B (obs m.rows)) m'.ms m'.mss) (hre : EnsR (fragU w B (obs m.rows)) m'.es m'.ess) (hfit : MFit ts m' s) : MAt A p B gm v ts w0 s m' w9 := by
 have hr : r ∈ m.rows := by rw [hL]; simp
 have hown := h.rows.own r hr
 have hge : ∀ k, r.v.ownBlock = some k → B ≤ k := fun k e => (hown.lt k e).1
 obtain ⟨hp8, he8⟩ := Par.rowed h.env h.par hown hne (by have := h.lts; omega) hg
 have hb8 : Blk w8 gm m.cells := h.blk8 hr hg
 obtain ⟨hp9, he9⟩ := Par.wrote he8 hp8 hb8 (show (9 : Nat) ≠ 3 by decide) hg9 h.lts.1
 have hrows := h.rows
 rw [hL] at hrows
 obtain ⟨hr8, hf8⟩ := Rows.push hrows ho hg hat
 rw [← hL, ← hL'] at hf8
 rw [← hL'] at hr8
 have hf9 : FLe (fragU w8 B (obs m'.rows)) (fragU w9 B (obs m'.rows)) := fragU_grown hg9 (fun k e => by cases e; left; exact h.lts.2.1) (fun k hk => .inl hk)
 exact ⟨hp9, he9, hB9, hr8.grown hg9 (fun k e => by cases e; exact h.lts.2.1), hrm.mono (hf8.trans hf9), hre.mono (hf8.trans hf9),
  (h.kept.trans (KeptB.of_grown hg h.lts.2.2 (fun k e => .inl (hge k e)))).trans (KeptB.of_grown hg9 (Nat.le_trans h.lts.2.2 hg.size) (fun k e => by cases e; right; simp)), ⟨h.lts.1, h.lts.2.1, Nat.le_trans h.lts.2.2 (Nat.le_trans hg.size hg9.size)⟩, hfit⟩
theorem MAt.push1 {A : Nat → Addr} {p B gm : Nat} {v : Value} {ts : List Lx.Tok} {w0 w w8 w9 : World} {s : Sx.St} {m : MV} {u : Value} {x : Sx.Fld} (h : MAt A p B gm v ts w0 s m w) (hfit : Sx.Fit ts (m.fs.length + 1) s)
  (ho : w8.ownsRow B 47 10 u (m.fs.length + 1) (m.fs.flatMap fC ++ fC x)) (hg : w.grownBy w8 m.v1.ownBlock) (hat : u.ownBlock = m.v1.ownBlock ∨ ∃ g, u.ownBlock = some g ∧ w.heap.size ≤ g)
  (hB9 : Blk w9 gm { m with v1 := u, fs := m.fs ++ [x] }.cells) (hg9 : w8.grownBy w9 (some gm)) : MAt A p B gm v ts w0 s { m with v1 := u, fs := m.fs ++ [x] } w9 :=
 h.push (L := []) (M := [m.r2, m.r3, m.r4, m.r5, m.r6]) (r := m.r1) (v' := u) (n' := m.fs.length + 1) (xs' := m.fs.flatMap fC ++ fC x) rfl (by simp [MV.rows, MV.r1, MV.r2, MV.r3, MV.r4, MV.r5, MV.r6]) (show 47 ≠ 75 by decide) ho hg hat hB9 hg9 h.rm h.re
  ⟨by simpa using hfit, h.fit.f2, h.fit.f3, h.fit.f4, h.fit.f5, h.fit.f6⟩
theorem MAt.push2 {A : Nat → Addr} {p B gm : Nat} {v : Value} {ts : List Lx.Tok} {w0 w w8 w9 : World} {s : Sx.St} {m : MV} {u : Value} {x : Lx.Bs} (h : MAt A p B gm v ts w0 s m w) (hfit : Sx.Fit ts (m.os.length + 1) s)
  (ho : w8.ownsRow B 9 1 u (m.os.length + 1) (m.os.flatMap sC ++ sC x)) (hg : w.grownBy w8 m.v2.ownBlock) (hat : u.ownBlock = m.v2.ownBlock ∨ ∃ g, u.ownBlock = some g ∧ w.heap.size ≤ g)
  (hB9 : Blk w9 gm { m with v2 := u, os := m.os ++ [x] }.cells) (hg9 : w8.grownBy w9 (some gm)) : MAt A p B gm v ts w0 s { m with v2 := u, os := m.os ++ [x] } w9 :=
 h.push (L := [m.r1]) (M := [m.r3, m.r4, m.r5, m.r6]) (r := m.r2) (v' := u) (n' := m.os.length + 1) (xs' := m.os.flatMap sC ++ sC x) rfl (by simp [MV.rows, MV.r1, MV.r2, MV.r3, MV.r4, MV.r5, MV.r6]) (show 9 ≠ 75 by decide) ho hg hat hB9 hg9 h.rm h.re
  ⟨h.fit.f1, by simpa using hfit, h.fit.f3, h.fit.f4, h.fit.f5, h.fit.f6⟩
theorem MAt.push3 {A : Nat → Addr} {p B gm : Nat} {v : Value} {ts : List Lx.Tok} {w0 w w8 w9 : World} {s : Sx.St} {m : MV} {u : Value} {k : Sx.Msg} {cs : List Value} (h : MAt A p B gm v ts w0 s m w) (hfit : Sx.Fit ts (m.mss.length + 1) s) (hk : MsgR (fragU w B (obs m.rows)) k cs)
  (ho : w8.ownsRow B 45 9 u (m.mss.length + 1) (m.mss.flatten ++ cs)) (hg : w.grownBy w8 m.v3.ownBlock) (hat : u.ownBlock = m.v3.ownBlock ∨ ∃ g, u.ownBlock = some g ∧ w.heap.size ≤ g)
  (hB9 : Blk w9 gm { m with v3 := u, ms := m.ms ++ [k], mss := m.mss ++ [cs] }.cells) (hg9 : w8.grownBy w9 (some gm)) : MAt A p B gm v ts w0 s { m with v3 := u, ms := m.ms ++ [k], mss := m.mss ++ [cs] } w9 :=
 h.push (L := [m.r1, m.r2]) (M := [m.r4, m.r5, m.r6]) (r := m.r3) (v' := u) (n' := m.mss.length + 1) (xs' := m.mss.flatten ++ cs) rfl (by simp [MV.rows, MV.r1, MV.r2, MV.r3, MV.r4, MV.r5, MV.r6]) (show 45 ≠ 75 by decide) ho hg hat hB9 hg9 (MsgsR.snoc hk h.rm) h.re
  ⟨h.fit.f1, h.fit.f2, by simpa using hfit, h.fit.f4, h.fit.f5, h.fit.f6⟩
theorem MAt.push4 {A : Nat → Addr} {p B gm : Nat} {v : Value} {ts : List Lx.Tok} {w0 w w8 w9 : World} {s : Sx.St} {m : MV} {u : Value} {k : Sx.Enm} {cs : List Value} (h : MAt A p B gm v ts w0 s m w) (hfit : Sx.Fit ts (m.ess.length + 1) s) (hk : EnmR (fragU w B (obs m.rows)) k cs)
  (ho : w8.ownsRow B 71 4 u (m.ess.length + 1) (m.ess.flatten ++ cs)) (hg : w.grownBy w8 m.v4.ownBlock) (hat : u.ownBlock = m.v4.ownBlock ∨ ∃ g, u.ownBlock = some g ∧ w.heap.size ≤ g)
  (hB9 : Blk w9 gm { m with v4 := u, es := m.es ++ [k], ess := m.ess ++ [cs] }.cells) (hg9 : w8.grownBy w9 (some gm)) : MAt A p B gm v ts w0 s { m with v4 := u, es := m.es ++ [k], ess := m.ess ++ [cs] } w9 :=
 h.push (L := [m.r1, m.r2, m.r3]) (M := [m.r5, m.r6]) (r := m.r4) (v' := u) (n' := m.ess.length + 1) (xs' := m.ess.flatten ++ cs) rfl (by simp [MV.rows, MV.r1, MV.r2, MV.r3, MV.r4, MV.r5, MV.r6]) (show 71 ≠ 75 by decide) ho hg hat hB9 hg9 h.rm (EnsR.snoc hk h.re)
  ⟨h.fit.f1, h.fit.f2, h.fit.f3, by simpa using hfit, h.fit.f5, h.fit.f6⟩
theorem MAt.push5 {A : Nat → Addr} {p B gm : Nat} {v : Value} {ts : List Lx.Tok} {w0 w w8 w9 : World} {s : Sx.St} {m : MV} {u : Value} {x : Sx.Rng} (h : MAt A p B gm v ts w0 s m w) (hfit : Sx.Fit ts (m.rs.length + 1) s)
  (ho : w8.ownsRow B 115 2 u (m.rs.length + 1) (m.rs.flatMap rC ++ rC x)) (hg : w.grownBy w8 m.v5.ownBlock) (hat : u.ownBlock = m.v5.ownBlock ∨ ∃ g, u.ownBlock = some g ∧ w.heap.size ≤ g)
  (hB9 : Blk w9 gm { m with v5 := u, rs := m.rs ++ [x] }.cells) (hg9 : w8.grownBy w9 (some gm)) : MAt A p B gm v ts w0 s { m with v5 := u, rs := m.rs ++ [x] } w9 :=
 h.push (L := [m.r1, m.r2, m.r3, m.r4]) (M := [m.r6]) (r := m.r5) (v' := u) (n' := m.rs.length + 1) (xs' := m.rs.flatMap rC ++ rC x) rfl (by simp [MV.rows, MV.r1, MV.r2, MV.r3, MV.r4, MV.r5, MV.r6]) (show 115 ≠ 75 by decide) ho hg hat hB9 hg9 h.rm h.re
  ⟨h.fit.f1, h.fit.f2, h.fit.f3, h.fit.f4, by simpa using hfit, h.fit.f6⟩
theorem MAt.push6 {A : Nat → Addr} {p B gm : Nat} {v : Value} {ts : List Lx.Tok} {w0 w w8 w9 : World} {s : Sx.St} {m : MV} {u : Value} {x : Lx.Bs} (h : MAt A p B gm v ts w0 s m w) (hfit : Sx.Fit ts (m.ns.length + 1) s)
  (ho : w8.ownsRow B 9 1 u (m.ns.length + 1) (m.ns.flatMap sC ++ sC x)) (hg : w.grownBy w8 m.v6.ownBlock) (hat : u.ownBlock = m.v6.ownBlock ∨ ∃ g, u.ownBlock = some g ∧ w.heap.size ≤ g)
  (hB9 : Blk w9 gm { m with v6 := u, ns := m.ns ++ [x] }.cells) (hg9 : w8.grownBy w9 (some gm)) : MAt A p B gm v ts w0 s { m with v6 := u, ns := m.ns ++ [x] } w9 :=
 h.push (L := [m.r1, m.r2, m.r3, m.r4, m.r5]) (M := []) (r := m.r6) (v' := u) (n' := m.ns.length + 1) (xs' := m.ns.flatMap sC ++ sC x) rfl (by simp [MV.rows, MV.r1, MV.r2, MV.r3, MV.r4, MV.r5, MV.r6]) (show 9 ≠ 75 by decide) ho hg hat hB9 hg9 h.rm h.re
  ⟨h.fit.f1, h.fit.f2, h.fit.f3, h.fit.f4, h.fit.f5, by simpa using hfit⟩
theorem MAt.le {A : Nat → Addr} {p B gm : Nat} {v : Value} {ts : List Lx.Tok} {w0 w w8 w9 : World} {s : Sx.St} {m m' : MV} {L M : List ORow} {r : ORow} {v' : Value} {n' : Nat} {xs' : List Value} (h : MAt A p B gm v ts w0 s m w) (hL : m.rows = L ++ r :: M) (hL' : m'.rows = L ++ ⟨r.ty, r.size, v', n', xs'⟩ :: M)
  (ho : w8.ownsRow B r.ty r.size v' n' xs') (hg : w.grownBy w8 r.v.ownBlock) (hat : v'.ownBlock = r.v.ownBlock ∨ ∃ g, v'.ownBlock = some g ∧ w.heap.size ≤ g) (hg9 : w8.grownBy w9 (some gm)) : FLe (fragU w B (obs m.rows)) (fragU w9 B (obs m'.rows)) := by
 have hrows := h.rows
 rw [hL] at hrows
 obtain ⟨hr8, hf8⟩ := Rows.push hrows ho hg hat
 rw [← hL, ← hL'] at hf8
 exact hf8.trans (fragU_grown hg9 (fun k e => by cases e; left; exact h.lts.2.1) (fun k hk => .inl hk))
def zMsg : Sx.Msg := .mk [] [] [] [] [] [] [] 0 0
theorem FlatB.nil {α : Type} (f : α → List Value) (h : Frag) : FlatB f h (.slice .none 0 0) [] := ⟨⟨.none, 0, rfl, Nat.le_refl _, Nat.zero_le _, fun _ => rfl, .inl rfl⟩, Nat.zero_le _⟩
theorem FlatD.nil (s : Nat) (h : Frag) : FlatD s h (.slice .none 0 0) [] := ⟨FlatC.nil _ _, Nat.zero_le _⟩
theorem FlatV.nil {α : Type} (f : α → List Value) (h : Frag) : FlatV f h (.slice .none 0 0) [] := ⟨.none, 0, rfl, Nat.le_refl _, Nat.zero_le _, fun _ => rfl, .inl rfl⟩
theorem zMsgR (h : Frag) : MsgR h zMsg zMs := by
 unfold zMsg; rw [MsgR]
 exact ⟨_, _, _, _, _, _, [], [], rfl, ⟨FlatB.nil _ _, FlatB.nil _ _, FlatD.nil _ _, FlatD.nil _ _, FlatB.nil _ _, FlatB.nil _ _⟩, by rw [MsgsR], by rw [EnsR]⟩
theorem MAt.push3b {A : Nat → Addr} {p B gm : Nat} {v : Value} {ts : List Lx.Tok} {w0 w w8 w9 w10 : World} {s : Sx.St} {m : MV} {u : Value} {k : Sx.Msg} {cs : List Value} (h : MAt A p B gm v ts w0 s m w) (hfit : Sx.Fit ts (m.mss.length + 1) s) (hk : MsgR (fragU w B (obs m.rows)) k cs)
  (ho : w8.ownsRow B 45 9 u (m.mss.length + 1) (m.mss.flatten ++ zMs)) (hg : w.grownBy w8 m.v3.ownBlock) (hat : u.ownBlock = m.v3.ownBlock ∨ ∃ g, u.ownBlock = some g ∧ w.heap.size ≤ g)
  (hB9 : Blk w9 gm { m with v3 := u, ms := m.ms ++ [zMsg], mss := m.mss ++ [zMs] }.cells) (hg9 : w8.grownBy w9 (some gm))
  (ho10 : w10.ownsRow B 45 9 u (m.mss.length + 1) (m.mss.flatten ++ cs)) (hg10 : w9.grownBy w10 u.ownBlock) : MAt A p B gm v ts w0 s { m with v3 := u, ms := m.ms ++ [k], mss := m.mss ++ [cs] } w10 := by
 have hle := h.le (m' := { m with v3 := u, ms := m.ms ++ [zMsg], mss := m.mss ++ [zMs] }) (L := [m.r1, m.r2]) (M := [m.r4, m.r5, m.r6]) (r := m.r3) (v' := u) (n' := m.mss.length + 1) (xs' := m.mss.flatten ++ zMs) rfl (by simp [MV.rows, MV.r1, MV.r2, MV.r3, MV.r4, MV.r5, MV.r6]) ho hg hat hg9
 have h9 := h.push3 (k := zMsg) (cs := zMs) hfit (zMsgR _) ho hg hat hB9 hg9
 obtain ⟨m9, hm9⟩ : ∃ z : MV, z = { m with v3 := u, ms := m.ms ++ [zMsg], mss := m.mss ++ [zMs] } := ⟨_, rfl⟩
 rw [← hm9] at h9 hle
 have hv9 : m9.v3 = u := by rw [hm9]
 have hc : { m with v3 := u, ms := m.ms ++ [k], mss := m.mss ++ [cs] }.cells = m9.cells := by rw [hm9]; rfl
 have hB10 : Blk w10 gm m9.cells := h9.blk8 (r := m9.r3) (by simp [MV.rows]) (by show w9.grownBy w10 m9.v3.ownBlock; rw [hv9]; exact hg10)
 refine h9.push (L := [m9.r1, m9.r2]) (M := [m9.r4, m9.r5, m9.r6]) (r := m9.r3) (v' := u) (n' := m.mss.length + 1) (xs' := m.mss.flatten ++ cs) rfl (by rw [hm9]; simp [MV.rows, MV.r1, MV.r2, MV.r3, MV.r4, MV.r5, MV.r6]) (show 45 ≠ 75 by decide) ho10 (by show w9.grownBy w10 m9.v3.ownBlock; rw [hv9]; exact hg10) (.inl (by show _ = m9.v3.ownBlock; rw [hv9])) (by rw [hc]; exact hB10) (World.grownBy.refl _ _) (MsgsR.snoc (hk.mono hle) (h.rm.mono hle)) (h.re.mono hle) ⟨h.fit.f1, h.fit.f2, by simpa using hfit, h.fit.f4, h.fit.f5, h.fit.f6⟩
theorem own_slice {w : World} {B : Nat} {e : TypeId} {size : Nat} {v : Value} {n : Nat} {xs : List Value} (h : w.ownsRow B e size v n xs) : ∃ a cap, v = .slice a n cap ∧ n ≤ cap := by
 obtain ⟨a, c, e, _, h1, _⟩ := HRow.of_ownsU h (Nat.le_refl _)
 exact ⟨a, c, e, h1⟩
theorem MAt.own1 {A : Nat → Addr} {p B gm : Nat} {v : Value} {ts : List Lx.Tok} {w0 w : World} {s : Sx.St} {m : MV} (h : MAt A p B gm v ts w0 s m w) : w.ownsRow B 47 10 m.v1 m.fs.length (m.fs.flatMap fC) := h.rows.own m.r1 (by simp [MV.rows])
theorem MAt.own2 {A : Nat → Addr} {p B gm : Nat} {v : Value} {ts : List Lx.Tok} {w0 w : World} {s : Sx.St} {m : MV} (h : MAt A p B gm v ts w0 s m w) : w.ownsRow B 9 1 m.v2 m.os.length (m.os.flatMap sC) := h.rows.own m.r2 (by simp [MV.rows])
theorem MAt.own3 {A : Nat → Addr} {p B gm : Nat} {v : Value} {ts : List Lx.Tok} {w0 w : World} {s : Sx.St} {m : MV} (h : MAt A p B gm v ts w0 s m w) : w.ownsRow B 45 9 m.v3 m.mss.length m.mss.flatten := h.rows.own m.r3 (by simp [MV.rows])
theorem MAt.own4 {A : Nat → Addr} {p B gm : Nat} {v : Value} {ts : List Lx.Tok} {w0 w : World} {s : Sx.St} {m : MV} (h : MAt A p B gm v ts w0 s m w) : w.ownsRow B 71 4 m.v4 m.ess.length m.ess.flatten := h.rows.own m.r4 (by simp [MV.rows])
theorem MAt.own5 {A : Nat → Addr} {p B gm : Nat} {v : Value} {ts : List Lx.Tok} {w0 w : World} {s : Sx.St} {m : MV} (h : MAt A p B gm v ts w0 s m w) : w.ownsRow B 115 2 m.v5 m.rs.length (m.rs.flatMap rC) := h.rows.own m.r5 (by simp [MV.rows])
theorem MAt.own6 {A : Nat → Addr} {p B gm : Nat} {v : Value} {ts : List Lx.Tok} {w0 w : World} {s : Sx.St} {m : MV} (h : MAt A p B gm v ts w0 s m w) : w.ownsRow B 9 1 m.v6 m.ns.length (m.ns.flatMap sC) := h.rows.own m.r6 (by simp [MV.rows])
theorem MAt.few {A : Nat → Addr} {p B gm : Nat} {v : Value} {ts : List Lx.Tok} {w0 w : World} {s : Sx.St} {m : MV} (h : MAt A p B gm v ts w0 s m w) {n : Nat} (hf : Sx.Fit ts n s) : n ≤ 10000 := by have h1 := hf.2; have h2 := h.env.small.few; omega
theorem MAt.whole {A : Nat → Addr} {p B gm : Nat} {v : Value} {ts : List Lx.Tok} {w0 w : World} {s : Sx.St} {m : MV} (h : MAt A p B gm v ts w0 s m w) {N : Nat} (hN : N ≤ B) : MsgR (fragU w N []) m.msg m.cells := by
 have hle : FLe (fragU w B (obs m.rows)) (fragU w N []) := (fragU_sub w B (E' := []) (fun k hk => by cases hk)).trans (fragU_down w hN (fun k hk => by cases hk))
 unfold MV.msg
 rw [MsgR]
 exact ⟨m.v1, m.v2, m.v3, m.v4, m.v5, m.v6, m.mss, m.ess, rfl, ⟨⟨FlatV.of_ownsU h.own1 hN, h.few h.fit.f1⟩, ⟨FlatV.of_ownsU h.own2 hN, h.few h.fit.f2⟩, ⟨FlatC.of_ownsU h.own3 hN h.rm.sizes, h.few h.fit.f3⟩, ⟨FlatC.of_ownsU h.own4 hN h.re.sizes, h.few h.fit.f4⟩, ⟨FlatV.of_ownsU h.own5 hN, h.few h.fit.f5⟩, ⟨FlatV.of_ownsU h.own6 hN, h.few h.fit.f6⟩⟩, h.rm.mono hle, h.re.mono hle⟩
theorem MAt.ones {A : Nat → Addr} {p B gm : Nat} {v : Value} {ts : List Lx.Tok} {w0 w : World} {s : Sx.St} {m : MV} (h : MAt A p B gm v ts w0 s m w) : ∀ u ∈ m.cells, u.oneCell' = true := (h.whole (Nat.le_refl _)).one
theorem MAt.fresh {A : Nat → Addr} {p B gm : Nat} {v : Value} {ts : List Lx.Tok} {w0 w : World} {s : Sx.St} {m : MV} (h : MAt A p B gm v ts w0 s m w) {w' : World} : FLe (fragU w' w.heap.size []) (fragU w' B (obs m.rows)) :=
 fragU_down w' h.lts.2.2 (fun k hk => (h.rows.ge k hk).2)
theorem info_slF : (Tryz.prog.info? 41).map (·.size) = some 1 := by kernel_rfl
theorem info_slS : (Tryz.prog.info? 42).map (·.size) = some 1 := by kernel_rfl
theorem info_slM : (Tryz.prog.info? 23).map (·.size) = some 1 := by kernel_rfl
theorem info_slE : (Tryz.prog.info? 24).map (·.size) = some 1 := by kernel_rfl
theorem info_slR : (Tryz.prog.info? 43).map (·.size) = some 1 := by kernel_rfl
theorem info2F : (Tryz.prog.info? 47).map (fun i => (i.size, i.zero.map (fun z => z.cells.size))) = some (10, some 10) := by kernel_rfl
theorem info2S : (Tryz.prog.info? 9).map (fun i => (i.size, i.zero.map (fun z => z.cells.size))) = some (1, some 1) := by kernel_rfl
theorem info2M : (Tryz.prog.info? 45).map (fun i => (i.size, i.zero.map (fun z => z.cells.size))) = some (9, some 9) := by kernel_rfl
theorem info2E : (Tryz.prog.info? 71).map (fun i => (i.size, i.zero.map (fun z => z.cells.size))) = some (4, some 4) := by kernel_rfl
theorem info2R : (Tryz.prog.info? 115).map (fun i => (i.size, i.zero.map (fun z => z.cells.size))) = some (2, some 2) := by kernel_rfl
end Go.Proofs.YtpcfdngnmigkfaaGreatDoor
