/- The reference redlineref08, walked: message. -/
import Derived.Test.YtpcfdngnmigkfaaGreatDoorRyMsg0
import Derived.Test.YtpcfdngnmigkfaaGreatDoorGroupF
import Derived.Deep.CutRange
set_option linter.unusedVariables false
set_option linter.unusedSimpArgs false
namespace Go.Proofs.YtpcfdngnmigkfaaGreatDoor
open Go.RowKit
def q1 (k : MV) : ORow := rowOf 110 10 fC k.v1 k.fs
def q2 (k : MV) : ORow := rowOf 9 1 sC k.v2 k.os
def q3 (k : MV) : ORow := rowCs 63 9 k.v3 k.mss
def q4 (k : MV) : ORow := rowCs 67 4 k.v4 k.ess
def q5 (k : MV) : ORow := rowOf 112 2 rC k.v5 k.rs
def q6 (k : MV) : ORow := rowOf 9 1 sC k.v6 k.ns
def mq (k : MV) : List ORow := [q1 k, q2 k, q3 k, q4 k, q5 k, q6 k]
def MRd (b : Nat) (k : MV) (h : Frag) : Prop := b = 0 → MsgsR h k.ms k.mss ∧ EnsR h k.es k.ess
theorem MRd.mono (b : Nat) (k : MV) : MonoF (MRd b k) := fun _ _ hle q e => ⟨(q e).1.mono hle, (q e).2.mono hle⟩
structure MLen (k : MV) (j : Nat) : Prop where
 l1 : k.fs.length ≤ j
 l2 : k.os.length ≤ j
 l3 : k.mss.length ≤ j
 l4 : k.ess.length ≤ j
 l5 : k.rs.length ≤ j
 l6 : k.ns.length ≤ j
theorem MLen.mono {k : MV} {j q : Nat} (h : MLen k j) (hq : j ≤ q) : MLen k q := ⟨Nat.le_trans h.l1 hq, Nat.le_trans h.l2 hq, Nat.le_trans h.l3 hq, Nat.le_trans h.l4 hq, Nat.le_trans h.l5 hq, Nat.le_trans h.l6 hq⟩
section
variable {w0 w : World} {l : List (Nat × List Value)} {k : MV} {RD : Frag → Prop} {b : Nat}
theorem OwnR.with {w' : World} {L : List ORow} {X : Frag → Prop} (h : OwnR w0 l L RD w) (hb : Below w.heap.size w w') (hX : MonoF X) (hx : X (fragU w' w.heap.size [])) : OwnR w0 l L (fun q => RD q ∧ X q) w' :=
 (h.call hb).read (fun a c hle q => ⟨h.mono _ _ hle q.1, hX _ _ hle q.2⟩) (fun q => ⟨q, hX _ _ (h.fresh hb) hx⟩)
theorem OwnR.hrow {α : Type} {f : α → List Value} {L : List ORow} {a : Option Addr} {n c : Nat} {xs : List α} {X : Frag → Prop} (H : OwnR w0 l L (fun q => RD q ∧ X q) w) (hX : ∀ q, X q → FlatB f q (.slice a n c) xs) : HRow (frag w) a (xs.flatMap f) := by
 obtain ⟨⟨a', c', e, _, _, _, h⟩, _⟩ := hX _ H.rd.2
 cases e; exact h.mono (fragU_le _ _ _)
theorem slice_of {B : Nat} {e : TypeId} {s : Nat} {v : Value} {n : Nat} {xs : List Value} (h : w.ownsRow B e s v n xs) : ∃ a c, v = .slice a n c := by
 obtain ⟨a, c, e, _⟩ := HRow.of_ownsU h (Nat.le_refl _); exact ⟨a, c, e⟩
theorem mv_ones (H : OwnR w0 l (mq k) RD w) : ∀ u ∈ k.cells, u.oneCell' = true := by
 have h1 := own_one (H.rows.own (q1 k) (by simp [mq]))
 have h2 := own_one (H.rows.own (q2 k) (by simp [mq]))
 have h3 := own_one (H.rows.own (q3 k) (by simp [mq]))
 have h4 := own_one (H.rows.own (q4 k) (by simp [mq]))
 have h5 := own_one (H.rows.own (q5 k) (by simp [mq]))
 have h6 := own_one (H.rows.own (q6 k) (by simp [mq]))
 intro u hu
 simp only [MV.cells, List.mem_cons, List.not_mem_nil, or_false] at hu
 rcases hu with rfl | rfl | rfl | rfl | rfl | rfl | rfl | rfl | rfl <;> first | rfl | exact h1 | exact h2 | exact h3 | exact h4 | exact h5 | exact h6
theorem mq_read (H : OwnR w0 l (mq k) (MRd 0 k) w) {j : Nat} (hl : MLen k j) (hj : j ≤ 10000) : MsgR (fragU w w0.heap.size []) k.msg k.cells := by
 have hd := H.done rfl
 obtain ⟨l1, l2, l3, l4, l5, l6⟩ := hl
 unfold MV.msg MV.cells; rw [MsgR]
 exact ⟨_, _, _, _, _, _, k.mss, k.ess, rfl,
  ⟨⟨FlatV.of_ownsU (f := fC) (H.rows.own (q1 k) (by simp [mq])) (Nat.le_refl _), by omega⟩,
   ⟨FlatV.of_ownsU (f := sC) (H.rows.own (q2 k) (by simp [mq])) (Nat.le_refl _), by omega⟩,
   ⟨FlatC.of_ownsU (H.rows.own (q3 k) (by simp [mq])) (Nat.le_refl _) hd.1.sizes, by omega⟩,
   ⟨FlatC.of_ownsU (H.rows.own (q4 k) (by simp [mq])) (Nat.le_refl _) hd.2.sizes, by omega⟩,
   ⟨FlatV.of_ownsU (f := rC) (H.rows.own (q5 k) (by simp [mq])) (Nat.le_refl _), by omega⟩,
   ⟨FlatV.of_ownsU (f := sC) (H.rows.own (q6 k) (by simp [mq])) (Nat.le_refl _), by omega⟩⟩, hd⟩
theorem mq_at1 (H : OwnR w0 l (mq k) RD w) : ∃ a c n, Hid (n = k.fs.length) ∧ Hid (k.v1 = .slice a n c) ∧ OwnR w0 l ([] ++ ⟨110, 10, .slice a n c, n, k.fs.flatMap fC⟩ :: [q2 k, q3 k, q4 k, q5 k, q6 k]) RD w := by
 obtain ⟨a, c, e⟩ := slice_of (H.rows.own (q1 k) (by simp [mq]))
 exact ⟨a, c, _, Yq rfl, Yq e, by have e2 : k.v1 = .slice a (k.fs.length) c := e; rw [← e2]; exact H⟩
theorem mq_at2 (H : OwnR w0 l (mq k) RD w) : ∃ a c n, Hid (n = k.os.length) ∧ Hid (k.v2 = .slice a n c) ∧ OwnR w0 l ([q1 k] ++ ⟨9, 1, .slice a n c, n, k.os.flatMap sC⟩ :: [q3 k, q4 k, q5 k, q6 k]) RD w := by
 obtain ⟨a, c, e⟩ := slice_of (H.rows.own (q2 k) (by simp [mq]))
 exact ⟨a, c, _, Yq rfl, Yq e, by have e2 : k.v2 = .slice a (k.os.length) c := e; rw [← e2]; exact H⟩
theorem mq_at3 (H : OwnR w0 l (mq k) RD w) : ∃ a c n, Hid (n = k.mss.length) ∧ Hid (k.v3 = .slice a n c) ∧ OwnR w0 l ([q1 k, q2 k] ++ ⟨63, 9, .slice a n c, n, k.mss.flatten⟩ :: [q4 k, q5 k, q6 k]) RD w := by
 obtain ⟨a, c, e⟩ := slice_of (H.rows.own (q3 k) (by simp [mq]))
 exact ⟨a, c, _, Yq rfl, Yq e, by have e2 : k.v3 = .slice a (k.mss.length) c := e; rw [← e2]; exact H⟩
theorem mq_at4 (H : OwnR w0 l (mq k) RD w) : ∃ a c n, Hid (n = k.ess.length) ∧ Hid (k.v4 = .slice a n c) ∧ OwnR w0 l ([q1 k, q2 k, q3 k] ++ ⟨67, 4, .slice a n c, n, k.ess.flatten⟩ :: [q5 k, q6 k]) RD w := by
 obtain ⟨a, c, e⟩ := slice_of (H.rows.own (q4 k) (by simp [mq]))
 exact ⟨a, c, _, Yq rfl, Yq e, by have e2 : k.v4 = .slice a (k.ess.length) c := e; rw [← e2]; exact H⟩
theorem mq_at5 (H : OwnR w0 l (mq k) RD w) : ∃ a c n, Hid (n = k.rs.length) ∧ Hid (k.v5 = .slice a n c) ∧ OwnR w0 l ([q1 k, q2 k, q3 k, q4 k] ++ ⟨112, 2, .slice a n c, n, k.rs.flatMap rC⟩ :: [q6 k]) RD w := by
 obtain ⟨a, c, e⟩ := slice_of (H.rows.own (q5 k) (by simp [mq]))
 exact ⟨a, c, _, Yq rfl, Yq e, by have e2 : k.v5 = .slice a (k.rs.length) c := e; rw [← e2]; exact H⟩
theorem mq_at6 (H : OwnR w0 l (mq k) RD w) : ∃ a c n, Hid (n = k.ns.length) ∧ Hid (k.v6 = .slice a n c) ∧ OwnR w0 l ([q1 k, q2 k, q3 k, q4 k, q5 k] ++ ⟨9, 1, .slice a n c, n, k.ns.flatMap sC⟩ :: []) RD w := by
 obtain ⟨a, c, e⟩ := slice_of (H.rows.own (q6 k) (by simp [mq]))
 exact ⟨a, c, _, Yq rfl, Yq e, by have e2 : k.v6 = .slice a (k.ns.length) c := e; rw [← e2]; exact H⟩
theorem mq_push1 {y : Sx.Fld} {u : Value} (H : OwnR w0 l ([] ++ ⟨110, 10, u, k.fs.length + 1, k.fs.flatMap fC ++ fC y⟩ :: [q2 k, q3 k, q4 k, q5 k, q6 k]) (MRd 0 k) w) : OwnR w0 l (mq { k with v1 := u, fs := k.fs ++ [y] }) (MRd b { k with v1 := u, fs := k.fs ++ [y] }) w := by
 unfold mq; simp only [q1, q2, q3, q4, q5, q6, rowOf_snoc] at H ⊢; exact H.read (MRd.mono _ _) (fun q _ => q rfl)
theorem mq_push2 {y : Lx.Bs} {u : Value} (H : OwnR w0 l ([q1 k] ++ ⟨9, 1, u, k.os.length + 1, k.os.flatMap sC ++ sC y⟩ :: [q3 k, q4 k, q5 k, q6 k]) RD w) : OwnR w0 l (mq { k with v2 := u, os := k.os ++ [y] }) RD w := by
 unfold mq; simp only [q1, q2, q3, q4, q5, q6, rowOf_snoc] at H ⊢; exact H
theorem mq_push3 {y : Sx.Msg} {u : Value} {cs : List Value} (H : OwnR w0 l ([q1 k, q2 k] ++ ⟨63, 9, u, k.mss.length + 1, k.mss.flatten ++ cs⟩ :: [q4 k, q5 k, q6 k]) (fun q => MRd 0 k q ∧ (b = 0 → MsgR q y cs)) w) : OwnR w0 l (mq { k with v3 := u, ms := k.ms ++ [y], mss := k.mss ++ [cs] }) (MRd b { k with v3 := u, ms := k.ms ++ [y], mss := k.mss ++ [cs] }) w := by
 unfold mq; simp only [q1, q2, q3, q4, q5, q6, rowCs_snoc] at H ⊢; exact H.read (MRd.mono _ _) (fun q e => ⟨MsgsR.snoc (q.2 e) (q.1 rfl).1, (q.1 rfl).2⟩)
theorem mq_push4 {y : Sx.Enm} {u : Value} {cs : List Value} (H : OwnR w0 l ([q1 k, q2 k, q3 k] ++ ⟨67, 4, u, k.ess.length + 1, k.ess.flatten ++ cs⟩ :: [q5 k, q6 k]) (fun q => MRd 0 k q ∧ (b = 0 → EnmR q y cs)) w) : OwnR w0 l (mq { k with v4 := u, es := k.es ++ [y], ess := k.ess ++ [cs] }) (MRd b { k with v4 := u, es := k.es ++ [y], ess := k.ess ++ [cs] }) w := by
 unfold mq; simp only [q1, q2, q3, q4, q5, q6, rowCs_snoc] at H ⊢; exact H.read (MRd.mono _ _) (fun q e => ⟨(q.1 rfl).1, EnsR.snoc (q.2 e) (q.1 rfl).2⟩)
theorem mq_add1 {ys : List Sx.Fld} {u : Value} (H : OwnR w0 l ([] ++ ⟨110, 10, u, k.fs.length + ys.length, k.fs.flatMap fC ++ ys.flatMap fC⟩ :: [q2 k, q3 k, q4 k, q5 k, q6 k]) RD w) : OwnR w0 l (mq { k with v1 := u, fs := k.fs ++ ys }) RD w := by
 unfold mq; simp only [q1, q2, q3, q4, q5, q6, rowOf, List.length_append, List.flatMap_append] at H ⊢; exact H
theorem mq_add5 {ys : List Sx.Rng} {u : Value} (H : OwnR w0 l ([q1 k, q2 k, q3 k, q4 k] ++ ⟨112, 2, u, k.rs.length + ys.length, k.rs.flatMap rC ++ ys.flatMap rC⟩ :: [q6 k]) RD w) : OwnR w0 l (mq { k with v5 := u, rs := k.rs ++ ys }) RD w := by
 unfold mq; simp only [q1, q2, q3, q4, q5, q6, rowOf, List.length_append, List.flatMap_append] at H ⊢; exact H
theorem mq_add6 {ys : List Lx.Bs} {u : Value} (H : OwnR w0 l ([q1 k, q2 k, q3 k, q4 k, q5 k] ++ ⟨9, 1, u, k.ns.length + ys.length, k.ns.flatMap sC ++ ys.flatMap sC⟩ :: []) RD w) : OwnR w0 l (mq { k with v6 := u, ns := k.ns ++ ys }) RD w := by
 unfold mq; simp only [q1, q2, q3, q4, q5, q6, rowOf, List.length_append, List.flatMap_append] at H ⊢; exact H
end
theorem rfield_lit3 (v : Value) (ts : List Lx.Tok) (hS : Small ts) (i : Nat) (w : World) (h : FlatV tC (frag w) v ts) (hi : i ≤ 900000) : Calls Tryz.prog 85 #[v, .int .i64 i, .int .i64 3, .int .i64 0] w (R3 w (fC (Sy.field ts i 3 0).1) (Sy.field ts i 3 0).2.1 (Sy.field ts i 3 0).2.2) := rfield_any v ts hS 3 0 i w h hi
theorem rfield_lit2 (v : Value) (ts : List Lx.Tok) (hS : Small ts) (i : Nat) (w : World) (h : FlatV tC (frag w) v ts) (hi : i ≤ 900000) : Calls Tryz.prog 85 #[v, .int .i64 i, .int .i64 2, .int .i64 0] w (R3 w (fC (Sy.field ts i 2 0).1) (Sy.field ts i 2 0).2.1 (Sy.field ts i 2 0).2.2) := rfield_any v ts hS 2 0 i w h hi
theorem rfield_lit1 (v : Value) (ts : List Lx.Tok) (hS : Small ts) (i : Nat) (w : World) (h : FlatV tC (frag w) v ts) (hi : i ≤ 900000) : Calls Tryz.prog 85 #[v, .int .i64 i, .int .i64 1, .int .i64 0] w (R3 w (fC (Sy.field ts i 1 0).1) (Sy.field ts i 1 0).2.1 (Sy.field ts i 1 0).2.2) := rfield_any v ts hS 1 0 i w h hi
theorem rmsg_build0 (w : World) : (Instr.build 63 #[]).run Tryz.prog w = .ok (.agg zMs.toArray) w := by kernel_rfl
theorem rmsg_build3 (a b : Int) (t : ByteArray) (w : World) : (Instr.build 63 #[(0, .string t), (7, .int .i64 a), (8, .int .i64 b)]).run Tryz.prog w = .ok (.agg #[.string t, .slice none 0 0, .slice none 0 0, .slice none 0 0, .slice none 0 0, .slice none 0 0, .slice none 0 0, .int .i64 a, .int .i64 b]) w := by kernel_rfl
theorem rstp_build2 (a b : Int) (w : World) : (Instr.build 100 #[(0, .int .i64 a), (1, .int .i64 b)]).run Tryz.prog w = .ok (.agg #[.int .i64 a, .int .i64 b]) w := by kernel_rfl
theorem one_zMs : ∀ u ∈ zMs, u.oneCell' = true := by intro u hu; simp only [zMs, List.mem_cons, List.not_mem_nil, or_false] at hu; rcases hu with rfl | rfl | rfl | rfl | rfl | rfl | rfl | rfl | rfl <;> rfl
theorem ones_flat {α : Type} {f : α → List Value} (h : ∀ y, ∀ u ∈ f y, u.oneCell' = true) (ys : List α) : ∀ u ∈ ys.flatMap f, u.oneCell' = true := fun u hu => by
 obtain ⟨y, _, hy⟩ := List.mem_flatMap.1 hu; exact h y u hy
theorem mq_mv0 (x : Lx.Tok) : ∀ r ∈ mq (mv0 x), r.v = .slice .none 0 0 ∧ r.n = 0 ∧ r.xs = [] := by
 intro r hr
 simp only [mq, q1, q2, q3, q4, q5, q6, mv0, rowOf, rowCs, List.mem_cons, List.not_mem_nil, or_false] at hr
 rcases hr with rfl | rfl | rfl | rfl | rfl | rfl <;> exact ⟨rfl, rfl, rfl⟩
theorem MRd_mv0 (b : Nat) (x : Lx.Tok) (h : Frag) : MRd b (mv0 x) h := fun _ => ⟨by show MsgsR h [] []; rw [MsgsR], by show EnsR h [] []; rw [EnsR]⟩
namespace Sy
open Sx
theorem part_word {ts : List Lx.Tok} {B : Nat → Msg → Nat → Msg × Nat × Stop} {deep p : Nat} {m : Msg} {W : Lx.Bs} (h : Word ts p W) : partR ts B deep m p = if W = bMessage then (m.addM (messageByR ts B (deep + 1) (p + 1)).1, (messageByR ts B (deep + 1) (p + 1)).2)
 else if W = bEnum then (m.addE (enumR ts (p + 1)).1, (enumR ts (p + 1)).2)
 else if W = bOneof then (Msg.oneofed m (oneofR ts (p + 1) (Msg.noneofs m + 1)).1, (oneofR ts (p + 1) (Msg.noneofs m + 1)).2)
 else if W = bReserved then (Msg.reservedOf m (reservedR ts (p + 1)).1, (reservedR ts (p + 1)).2)
 else if W = bRepeated then (m.addF (Sy.field ts (p + 1) 3 0).1, (Sy.field ts (p + 1) 3 0).2)
 else if W = bOptional then (m.addF (Sy.field ts (p + 1) 2 0).1, (Sy.field ts (p + 1) 2 0).2)
 else if W = bMap ∧ isAt ts (p + 1) 4 [60] = true then (m.addF (Sy.mapped ts (p + 1)).1, (Sy.mapped ts (p + 1)).2)
 else (m.addF (Sy.field ts p 1 0).1, (Sy.field ts p 1 0).2) := by
 unfold partR
 rw [h bMessage (by decide), h bEnum (by decide), h bOneof (by decide), h bReserved (by decide), h bRepeated (by decide), h bOptional (by decide), h bMap (by decide)]
 simp only [decide_eq_true_eq]
end Sy
def MRel (w : World) (ts : List Lx.Tok) (deep n m : Nat) (R : Sx.Msg × Nat × Sy.Stop) (gM gS gT g2 g1 : Nat) (x : Lx.Tok) (fu : Nat) (av : Value) (wr : World) : Prop :=
 ∃ (k : MV) (j : Nat) (s : Sy.Stop), av = .int .i64 j ∧ Hid (OwnR w [(gM, k.cells), (gS, stC s), (gT, tC x), (g2, zSt), (g1, zMs)] (mq k) (MRd s.2 k) wr) ∧ Hid (Sy.PartL ts deep R fu k.msg j s) ∧ (s.2 = 0 → m + 2 ≤ fu + j ∧ j ≤ m) ∧ fu ≤ n ∧ Hid (s.2 = 0 → MLen k j)
def WCut (ts : List Lx.Tok) (p : Nat) (w : World) (v : Value) (wx : World) : Prop := wx = w ∧ ∃ W, v = .string (toB W) ∧ Hid (Sy.Word ts p W)
def FCut (w : World) (ts : List Lx.Tok) (deep fu p gF gM gS gT g2 g1 : Nat) (x : Lx.Tok) (k : MV) (av : Value) (wx : World) : Prop :=
 ∃ (y : Sx.Fld) (q : Nat) (s1 : Sy.Stop), av = .int .i64 q ∧ Hid (OwnR w [(gF, fC y), (gM, k.cells), (gS, stC s1), (gT, tC x), (g2, zSt), (g1, zMs)] (mq k) (MRd 0 k) wx) ∧ Hid (Sy.partR ts (Sy.partsL ts fu) deep k.msg p = (k.msg.addF y, q, s1))
theorem MRel.step {w wr : World} {ts : List Lx.Tok} {deep n m : Nat} {R r : Sx.Msg × Nat × Sy.Stop} {gM gS gT g2 g1 : Nat} {x : Lx.Tok} {fu j p q : Nat} {s s1 : Sy.Stop} {k k1 : MV} {l : List (Nat × List Value)} (HO : OwnR w l (mq k1) (MRd s1.2 k1) wr) (hl : [(gM, k1.cells), (gS, stC s1), (gT, tC x), (g2, zSt), (g1, zMs)].Sublist l)
  (HR : Sy.PartL ts deep R (fu + 1) k.msg j s) (hs : s.2 = 0) (hp : Sy.onAt ts j = p) (hc : Sy.isAt ts p 4 [125] = false) (hr : Sy.partR ts (Sy.partsL ts fu) deep k.msg p = r) (hq : r.2 = (q, s1)) (hm : s1.2 = 0 → r.1 = k1.msg) (hM : ts.length = m) (hb : m + 2 ≤ fu + 1 + j) (hjp : j ≤ p) (hfn : fu + 1 ≤ n)
  (hlen : s1.2 = 0 → p < q → MLen k1 q) : MRel w ts deep n m R gM gS gT g2 g1 x fu (.int .i64 q) wr := by
 obtain ⟨h1, h2⟩ := HR.next hs hp hc hr hq hm
 exact ⟨k1, q, s1, rfl, Yq (HO.sub hl), Yq h1, fun e => by have := h2 e; omega, by omega, Yq (fun e => hlen e (h2 e).1)⟩
set_option maxHeartbeats 16000000 in
set_option maxRecDepth 100000 in
theorem rmessage_any (v : Value) (ts : List Lx.Tok) (hS : Small ts) : ∀ (n deep i : Nat) (w : World), FlatV tC (frag w) v ts → i ≤ 800000 → deep ≤ 8 → ts.length + 1 ≤ n + i →
  Calls Tryz.prog 61 #[v, .int .i64 i, .int .i64 deep] w (RTree MsgR 9 w (Sy.messageByR ts (Sy.partsL ts n) deep i)) := by
 intro n
 induction n using Nat.strongRecOn with
 | ind n ih =>
 intro deep i w h hi hdp hfu
 obtain ⟨ad, cap, rfl, _, _, _⟩ := h.len
 obtain ⟨R, hR⟩ : ∃ R, R = Sy.messageByR ts (Sy.partsL ts n) deep i := ⟨_, rfl⟩
 rw [← hR]
 unfold Sy.messageByR at hR
 have HTk := Yq h
 have HMs := Yq (fun fu (hfn : fu < n) j w0 (hb : Below w.heap.size w w0) (hd8 : ¬ 8 ≤ deep) (hj : j ≤ 800000) (hf : ts.length + 1 ≤ fu + j) => ih fu hfn (deep + 1) j w0 (h.mono (below_le hb)) hj (by omega) hf)
 have HI := Yq (fun j k t w0 (hb : Below w.heap.size w w0) => is_any (.slice ad ts.length cap) ts j k t w0 (h.mono (below_le hb)))
 have HSe := Yq (fun j w0 (hb : Below w.heap.size w w0) (hj : j ≤ 1000000) => rsemis_any (.slice ad ts.length cap) ts (Nat.le_trans hS.few (by decide)) j w0 (h.mono (below_le hb)) hj)
 have HNm := Yq (fun w0 (hb : Below w.heap.size w w0) => rname_any (.slice ad ts.length cap) ts i w0 (h.mono (below_le hb)) (by omega))
 have HW := Yq (fun j t g w0 (hb : Below w.heap.size w w0) hx hne hj => want1_any (.slice ad ts.length cap) ts j t g w0 (h.mono (below_le hb)) hx hne hj)
 have HFd3 := Yq (fun j w0 (hb : Below w.heap.size w w0) (hj : j ≤ 900000) => rfield_lit3 (.slice ad ts.length cap) ts hS j w0 (h.mono (below_le hb)) hj)
 have HFd2 := Yq (fun j w0 (hb : Below w.heap.size w w0) (hj : j ≤ 900000) => rfield_lit2 (.slice ad ts.length cap) ts hS j w0 (h.mono (below_le hb)) hj)
 have HFd1 := Yq (fun j w0 (hb : Below w.heap.size w w0) (hj : j ≤ 900000) => rfield_lit1 (.slice ad ts.length cap) ts hS j w0 (h.mono (below_le hb)) hj)
 have HMp := Yq (fun j w0 (hb : Below w.heap.size w w0) (hj : j ≤ 890000) => rmapped_any (.slice ad ts.length cap) ts hS j w0 (h.mono (below_le hb)) hj)
 have HEn := Yq (fun j w0 (hb : Below w.heap.size w w0) (hj : j ≤ 900000) => renum_any (.slice ad ts.length cap) ts hS j w0 (h.mono (below_le hb)) hj)
 have HOf := Yq (fun j b w0 (hb : Below w.heap.size w w0) (hj : j ≤ 800000) => roneof_any (.slice ad ts.length cap) ts hS j b w0 (h.mono (below_le hb)) hj)
 have HRs := Yq (fun j w0 (hb : Below w.heap.size w w0) (hj : j ≤ 800000) => rreserved_any (.slice ad ts.length cap) ts hS j w0 (h.mono (below_le hb)) hj)
 have Honl := Yq (fun j => Sy.onAt_le ts j (max j ts.length) (Nat.le_max_left _ _) (Nat.le_max_right _ _))
 unfold R3 at HNm HFd3 HFd2 HFd1 HMp
 unfold RTree at HMs HEn
 unfold ROne at HOf
 unfold RRes at HRs
 unfold R2 at HW
 have Hfew := Yq hS.few
 have hle0 := Sy.name_le ts i
 have hne0 := Sy.name_next (ts := ts) (i := i)
 have hnb0 : (Sy.name ts i).2.2.2 ≠ 0 → (Sy.name ts i).2.1 = i := fun e => by
  unfold Sy.name at e ⊢
  split
  ·rename_i c; rw [if_pos c] at e; exact absurd rfl e
  ·rfl
 have hwe := fun j => Sy.want_end (ts := ts) (i := j) (t := [123])
 have hwn := fun j => Sy.want_next ts (i := j) (t := [123])
 obtain ⟨m, hm0⟩ : ∃ m, m = ts.length := ⟨_, rfl⟩
 have HM := Yq hm0.symm
 rw [← hm0] at HMs HI HSe HNm HFd3 HFd2 HFd1 HMp HEn HOf HRs HW Honl Hfew HTk hwe hfu ⊢
 generalize Sy.name ts i = A at *
 obtain ⟨x, j0, s0⟩ := A
 dsimp only at HNm hle0 hne0 hnb0 hR
 have HR := Yq hR
 have hb0 := rmsg_build0
 have hb3 := rmsg_build3
 have hbs := stp_build0
 have hb2 := rstp_build2
 have HO := Own.nil w
 clear hm0 hR h hS ih
 go_enter Tryz.func61, Tryz.ntmps61
 go_upto_region 1 with (first
  | ((with_reducible refine atOp (.alloc 63) ?_); (refine wpList_alloc_own rfl 63 rfl zMs zeroRM HO ?_; clear HO; intro w1 g1 HO))
  | ((with_reducible refine atOp (.alloc 100) ?_); (refine wpList_alloc_own rfl 100 rfl zSt zeroStp HO ?_; clear HO; intro w1 g2 HO))
  | fail)
 go_upto_region 2 with (first
  | (go_at_call 81; (refine (HNm.out _ HO.below).mono ?_); rintro e w3 ⟨rfl, hb⟩; replace HO := HO.call hb; clear hb)
  | ((with_reducible refine atOp (.alloc 95) ?_); (refine wpList_alloc_own rfl 95 rfl zT zeroRTk HO ?_; clear HO; intro w1 gT HO))
  | ((with_reducible refine atOp (.alloc 100) ?_); (refine wpList_alloc_own rfl 100 rfl zSt zeroStp HO ?_; clear HO; intro w1 gS HO))
  | ((with_reducible refine atOp (.store 95 _ _) ?_); (refine wpList_store_own 1 rfl 95 _ _ rfl _ 0 (tC x) rfl rfl HO rfl infoRTk (Nat.le_refl _) (one_tC _) rfl ?_; clear HO; intro w6 HO))
  | ((with_reducible refine atOp (.store 100 _ _) ?_); (refine wpList_store_own 0 rfl 100 _ _ rfl _ 0 (stC s0) rfl rfl HO rfl infoStp (Nat.le_refl _) (one_stC _) rfl ?_; clear HO; intro w6 HO))
  | fail)
 by_cases h0 : s0.2 = 0
 ·have e1 : w6.cell? ⟨_, 1, none⟩ = some (.int .i64 0) := ((HO.at 0 rfl).cell (o := 1) rfl).trans (by rw [show ((s0.2 : Nat) : Int) = 0 by omega])
  clear hnb0
  by_cases hd8 : 8 ≤ deep
  ·have hdt : decide ((8 : Int) ≤ (deep : Int)) = true := decide_eq_true (by omega)
   have HRe : Hid (R.2 = (i, (i, 8))) := Yq (by rw [HR.out, if_neg (by simpa using h0), if_pos hd8])
   have hnz : R.2.2.2 ≠ 0 := by rw [HRe.out]; exact (by decide : (8 : Nat) ≠ 0)
   have hone := one_zMs
   clear HR
   go_wp2_with (first
   | ((with_reducible refine atOp (.store 63 _ _) ?_); (refine wpList_store_own 3 rfl 63 _ _ rfl _ 0 (zMs) rfl rfl HO rfl infoRM (Nat.le_refl _) (hone) rfl ?_; clear HO; intro w8 HO))
   | ((with_reducible refine atOp (.store 100 _ _) ?_); (refine wpList_store_own 2 rfl 100 _ _ rfl _ 0 (stC (i, 8)) rfl rfl HO rfl infoStp (Nat.le_refl _) (one_stC _) rfl ?_; clear HO; intro w9 HO))
   | fail)
   refine bodyPost_ret (v := .tuple #[.agg (zMs).toArray, .int .i64 R.2.1, .agg (stC R.2.2).toArray]) ?_ rfl ⟨zMs, rfl, rfl, hone, (fun e => absurd e hnz), HO.below⟩
   exact results_ctc rfl (by kernel_rfl) (by rw [HRe.out]; kernel_rfl) (by kernel_rfl) (run_load_blk (HO.at 3 rfl) _ Tryz.underlying63 rfl infoRM) (by rw [HRe.out]; exact run_load_blk (HO.at 2 rfl) _ Tryz.underlying100 rfl infoStp)
  ·have hdt : decide ((8 : Int) ≤ (deep : Int)) = false := decide_eq_false (by omega)
   have Hj0 := Yq (hne0 h0)
   have HR1 := Yq (by have := HR.out; rw [if_neg (by simpa using h0), if_neg hd8] at this; exact this)
   have HW1 := Yq (fun g w0 hb hx => HW.out j0 [123] g w0 hb hx (by decide) (by omega))
   have hwe1 := hwe j0
   have hwn1 := hwn j0
   generalize Sy.want ts j0 [[123]] = B at *
   obtain ⟨j1, s1⟩ := B
   dsimp only at HW1 hwe1 hwn1 HR1
   have HRp : Hid (Sy.PartL ts deep R n (mv0 x).msg j1 s1) := Yq (by
    unfold Sy.PartL
    by_cases c : s1.2 = 0
    ·rw [if_pos c, HR1.out, if_neg (by simpa using c)]; rfl
    ·rw [if_neg c, HR1.out, if_pos (by simpa using c)])
   have hn1 := Yq hwe1
   have hn2 := Yq hwn1
   clear HR HR1 hwe hwn hle0 hne0 hwe1 hwn1
   have t1 : w6.cell? ⟨gT, 1, none⟩ = some (.string (toB x.text)) := (HO.at 1 rfl).cell (o := 1) rfl
   have t3 : w6.cell? ⟨gT, 3, none⟩ = some (.int .i64 x.line) := (HO.at 1 rfl).cell (o := 3) rfl
   have t4 : w6.cell? ⟨gT, 4, none⟩ = some (.int .i64 x.col) := (HO.at 1 rfl).cell (o := 4) rfl
   have hone : ∀ u ∈ (mv0 x).cells, u.oneCell' = true := mv_ones (OwnR.start HO (mq (mv0 x)) (mq_mv0 x))
   go_upto_region 7 with (first
   | ((with_reducible refine atOp (.alloc 63) ?_); (refine wpList_alloc_own rfl 63 rfl zMs zeroRM HO ?_; clear HO; intro w1 gM HO))
   | ((with_reducible refine atOp (.store 63 _ _) ?_); (refine wpList_store_own (ds := (mv0 x).cells) 0 rfl 63 _ _ rfl _ 0 ([.string (toB x.text), .slice none 0 0, .slice none 0 0, .slice none 0 0, .slice none 0 0, .slice none 0 0, .slice none 0 0, .int .i64 x.line, .int .i64 x.col]) rfl rfl HO rfl infoRM (Nat.le_refl _) (hone) rfl ?_; clear HO; intro w7 HO))
   | fail)
   clear e1 t1 t3 t4
   obtain ⟨c0, hc0⟩ : ∃ c, c = (mv0 x).cells := ⟨_, rfl⟩
   replace HO : Own w [(gM, c0), (gS, stC s0), (gT, tC x), (g2, zSt), (g1, zMs)] w7 := by rw [hc0]; exact HO
   have Hc0 := Yq hc0
   clear hc0 hone
   go_simp
   go_wp2_with (first
   | ((with_reducible refine atOp (.buildSlice 42 _ _) ?_); (refine wpList_str1_own rfl _ rfl HO ?_; clear HO; intro w7 g7 HO))
   | (go_at_call 57; (refine (HW1.out _ _ HO.below (HO.at 0 rfl)).mono ?_); rintro e w8 ⟨rfl, hb⟩; replace HO := (HO.call hb).sub (List.sublist_cons_self _ _); clear hb)
   | ((with_reducible refine atOp (.store 100 _ _) ?_); (refine wpList_store_own 1 rfl 100 _ _ rfl _ 0 (stC s1) rfl rfl HO rfl infoStp (Nat.le_refl _) (one_stC _) rfl ?_; clear HO; intro w9 HO))
   | fail)
   have HO1 : Hid (OwnR w [(gM, (mv0 x).cells), (gS, stC s1), (gT, tC x), (g2, zSt), (g1, zMs)] (mq (mv0 x)) (MRd s1.2 (mv0 x)) w9) := Yq (by rw [← Hc0.out]; exact (OwnR.start HO (mq (mv0 x)) (mq_mv0 x)).read (MRd.mono _ _) (fun _ => MRd_mv0 _ _ _))
   clear HO HW1
   go_simp
   go_loopg [1] n (fun fu av wr => MRel w ts deep n m R gM gS gT g2 g1 x fu av wr)
   case atStart => exact ⟨mv0 x, j1, s1, rfl, HO1, HRp, (fun e => by have := hn1.out e; have := hn2.out e; have := Hj0.out; omega), Nat.le_refl _, Yq (fun _ => ⟨Nat.zero_le _, Nat.zero_le _, Nat.zero_le _, Nat.zero_le _, Nat.zero_le _, Nat.zero_le _⟩)⟩
   case round =>
    clear HO1 HRp hn1 hn2
    obtain ⟨k, j, s, rfl, HO, HR, hb, hfn, hlen⟩ := hrel
    replace HO := HO.out
    by_cases hs0 : s.2 = 0
    ·have e1 : wr.cell? ⟨gS, 1, none⟩ = some (.int .i64 0) := ((HO.own.at 1 rfl).cell (o := 1) rfl).trans (by rw [show ((s.2 : Nat) : Int) = 0 by omega])
     obtain ⟨hb1, hb2⟩ := hb hs0
     replace HO := HO.read (RD' := MRd 0 k) (MRd.mono _ _) (fun q _ => q hs0)
     obtain ⟨fu, rfl⟩ : ∃ n, gk = n + 1 := ⟨gk - 1, by omega⟩
     have hm5 := Hfew.out
     have HS1 := Yq (fun w0 hb => HSe.out j w0 hb (by omega))
     have hol := Honl.out j
     have hog := Sy.onAt_ge ts j
     obtain ⟨p, hp⟩ : ∃ p, p = Sy.onAt ts j := ⟨_, rfl⟩
     rw [← hp] at HS1 hol hog
     have Hp : Hid (Sy.onAt ts j = p) := Yq hp.symm
     clear hp hb
     have hpl : p ≤ 700000 := by omega
     have HI5 := Yq (fun w0 hb => HI.out p 4 [125] w0 hb)
     cases hc : Sy.isAt ts p 4 [125]
     ·rw [hc] at HI5
      have HI6 := Yq (fun w0 hb => HI.out p 1 [] w0 hb)
      go_upto_region 13 with (first
     | (go_at_call 82; (refine (HS1.out _ HO.below).mono ?_); rintro e w3 ⟨rfl, rfl⟩)
     | (go_at_call 59; (refine (HI5.out _ HO.below).mono ?_); rintro e w3 ⟨rfl, rfl⟩)
     | fail)
      clear HI5 HS1 e1
      go_upto_if 69 with (first
       | (go_at_call 59; (refine (HI6.out _ HO.below).mono ?_); rintro e w3 ⟨rfl, rfl⟩)
       | fail)
      go_cut [13] from 54 to 208 (fun v13 wx => WCut ts p w3 v13 wx)
      case first =>
       cases h6 : Sy.isAt ts p 1 []
       ·rw [h6] at HI6
        go_wp2_with fail
        go_meet
        exact ⟨rfl, [], rfl, Yq (Sy.word_no h6)⟩
       ·rw [h6] at HI6
        have hlt := Sy.isAt_lt ts h6
        obtain ⟨b0, o0, hbl0, hidx0, hcell0⟩ := FlatV.at (n := m) (cap := cap) (a := ad) (HTk.out.mono (below_le HO.below)) tC_len (by decide) (i := p) hlt Tryz.underlying102 sizeRTks
        have d1 : w3.cell? ⟨b0, o0 + 1, none⟩ = some (.string (toB ts[p].text)) := hcell0 1 _ rfl
        have hwy := Sy.word_yes h6 hlt
        generalize ts[p] = xw at *
        clear hcell0
        go_wp2_with fail
        go_meet
        exact ⟨rfl, xw.text, rfl, Yq hwy⟩
      case rest =>
       obtain ⟨rfl, W, rfl, HWd⟩ := hcut
       clear HI6
       by_cases c1 : W = Sx.bMessage
       ·have t1 : ((toB W).toList == [109, 101, 115, 115, 97, 103, 101]) = true := (toB_lit W _).trans (decide_eq_true c1)
        replace c1 := Yq c1
        have HC := Yq (fun w0 hb => HMs.out fu (by omega) (p + 1) w0 hb hd8 (by omega) (by omega))
        have hr : Hid (Sy.partR ts (Sy.partsL ts fu) deep k.msg p = _) := Yq ((Sy.part_word HWd.out).trans (if_pos c1.out))
        generalize Sy.messageByR ts (Sy.partsL ts fu) (deep + 1) (p + 1) = B at *
        obtain ⟨y, q, s1⟩ := B
        dsimp only at HC hr
        go_upto_region 27 with (first
         | ((with_reducible refine atOp (.alloc 63) ?_); (refine wpList_alloc_ownR rfl 63 rfl zMs zeroRM HO ?_; clear HO; intro w1 gK HO))
         | (go_at_call 61; (refine (HC.out _ HO.below).mono ?_); rintro e w3 ⟨cs, rfl, hcl, hone, hrd, hb⟩; have hsz : (Tryz.prog.info? 63).map (·.size) = some cs.length := (by rw [hcl]; exact infoRM); replace hcl := Yq hcl; replace HO := HO.with hb (X := fun q => s1.2 = 0 → MsgR q y cs) (fun _ _ hle q e => (q e).mono hle) hrd; clear hb hrd)
         | ((with_reducible refine atOp (.store 63 _ _) ?_); refine wpList_store_ownR 0 rfl 63 _ _ rfl _ 0 cs rfl rfl HO rfl hsz (by rw [hcl.out]; decide) hone (patch_whole' _ _ (by rw [hcl.out]; rfl)) ?_; clear HO; intro w6 HO)
         | ((with_reducible refine atOp (.store 100 _ _) ?_); (refine wpList_store_ownR 2 rfl 100 _ _ rfl _ 0 (stC s1) rfl rfl HO rfl infoStp (Nat.le_refl _) (one_stC _) (patch_whole' _ _ rfl) ?_; clear HO; intro w6 HO))
         | fail)
        obtain ⟨ua, uc, n0, hn0, hv, HOa⟩ := mq_at3 HO
        have cu : w6.cell? ⟨gM, 3, none⟩ = some (.slice ua n0 uc) := ((HO.own.at 1 rfl).cell (o := 3) rfl).trans (by rw [hv.out])
        have hvl := (HO.own.at 0 rfl).whole
        have hn5 : (n0 + 1) * 200 ≤ 140737488355328 := by have := (hlen.out hs0).l3; have := hn0.out; have := Hfew.out; omega
        clear HO
        go_wp2_with (first
         | ((with_reducible refine atOp (.load 63 _) ?_); refine wpList_load_seg rfl 63 _ rfl _ _ rfl _ _ hvl Tryz.underlying63 rfl hsz ?_)
         | ((with_reducible refine atOp (.buildSlice _ _ _) ?_); refine wpList_buildSlice1 rfl 31 63 _ rfl cs (.agg cs.toArray) rfl Tryz.underlying31 (by rw [hcl.out]; exact info2RM) (by rw [hcl.out]; decide) (by rw [hcl.out]; decide) rfl ?_)
         | (at_builtin; refine wpList_append_ownR T_RM rfl _ _ rfl cs HOa rfl rfl hcl.out hone (Nat.le_trans (Nat.mul_le_mul_left _ (by decide)) hn5) ?_; (intro u9 w9 HO9 hone9; clear cu hvl HOa))
         | ((with_reducible refine atOp (.store 31 _ _) ?_); refine wpList_store_ownR1 (ds := ({ k with v3 := u9, ms := k.ms ++ [y], mss := k.mss ++ [cs] } : MV).cells) 1 rfl 31 _ _ rfl _ 3 u9 rfl rfl HO9 rfl info1RM ?_ hone9 rfl ?_; (· show 3 + 1 ≤ 9; decide); (clear HO9; intro w9 HO9)))
        have HOn := mq_push3 (b := s1.2) (by rw [← hn0.out]; exact HO9)
        clear HO9
        go_roundg fu
        case measure => omega
        case rel => exact MRel.step HOn (.cons _ (List.Sublist.refl _)) HR.out hs0 Hp.out hc hr.out rfl (fun _ => rfl) HM.out hb1 hog hfn (fun e hpq => { (hlen.out hs0).mono (show j ≤ q by omega) with l3 := by have := (hlen.out hs0).l3; simp only [List.length_append, List.length_cons, List.length_nil]; omega })
       ·have t1 : ((toB W).toList == [109, 101, 115, 115, 97, 103, 101]) = false := (toB_lit W _).trans (decide_eq_false c1)
        replace c1 := Yq c1
        go_upto_region 28 with fail
        by_cases c2 : W = Sx.bEnum
        ·have t2 : ((toB W).toList == [101, 110, 117, 109]) = true := (toB_lit W _).trans (decide_eq_true c2)
         replace c2 := Yq c2
         have HC := Yq (fun w0 hb => HEn.out (p + 1) w0 hb (by omega))
         have hr : Hid (Sy.partR ts (Sy.partsL ts fu) deep k.msg p = _) := Yq ((Sy.part_word HWd.out).trans (by rw [if_neg c1.out, if_pos c2.out]))
         generalize Sy.enumR ts (p + 1) = B at *
         obtain ⟨y, q, s1⟩ := B
         dsimp only at HC hr
         go_upto_region 31 with (first
          | ((with_reducible refine atOp (.alloc 67) ?_); (refine wpList_alloc_ownR rfl 67 rfl zEn zeroRE HO ?_; clear HO; intro w1 gK HO))
          | (go_at_call 62; (refine (HC.out _ HO.below).mono ?_); rintro e w3 ⟨cs, rfl, hcl, hone, hrd, hb⟩; have hsz : (Tryz.prog.info? 67).map (·.size) = some cs.length := (by rw [hcl]; exact infoRE); replace hcl := Yq hcl; replace HO := HO.with hb (X := fun q => s1.2 = 0 → EnmR q y cs) (fun _ _ hle q e => (q e).mono hle) hrd; clear hb hrd)
          | ((with_reducible refine atOp (.store 67 _ _) ?_); refine wpList_store_ownR 0 rfl 67 _ _ rfl _ 0 cs rfl rfl HO rfl hsz (by rw [hcl.out]; decide) hone (patch_whole' _ _ (by rw [hcl.out]; rfl)) ?_; clear HO; intro w6 HO)
          | ((with_reducible refine atOp (.store 100 _ _) ?_); (refine wpList_store_ownR 2 rfl 100 _ _ rfl _ 0 (stC s1) rfl rfl HO rfl infoStp (Nat.le_refl _) (one_stC _) (patch_whole' _ _ rfl) ?_; clear HO; intro w6 HO))
          | fail)
         obtain ⟨ua, uc, n0, hn0, hv, HOa⟩ := mq_at4 HO
         have cu : w6.cell? ⟨gM, 4, none⟩ = some (.slice ua n0 uc) := ((HO.own.at 1 rfl).cell (o := 4) rfl).trans (by rw [hv.out])
         have hvl := (HO.own.at 0 rfl).whole
         have hn5 : (n0 + 1) * 200 ≤ 140737488355328 := by have := (hlen.out hs0).l4; have := hn0.out; have := Hfew.out; omega
         clear HO
         go_wp2_with (first
          | ((with_reducible refine atOp (.load 67 _) ?_); refine wpList_load_seg rfl 67 _ rfl _ _ rfl _ _ hvl Tryz.underlying67 rfl hsz ?_)
          | ((with_reducible refine atOp (.buildSlice _ _ _) ?_); refine wpList_buildSlice1 rfl 32 67 _ rfl cs (.agg cs.toArray) rfl Tryz.underlying32 (by rw [hcl.out]; exact info2RE) (by rw [hcl.out]; decide) (by rw [hcl.out]; decide) rfl ?_)
          | (at_builtin; refine wpList_append_ownR T_RE rfl _ _ rfl cs HOa rfl rfl hcl.out hone (Nat.le_trans (Nat.mul_le_mul_left _ (by decide)) hn5) ?_; (intro u9 w9 HO9 hone9; clear cu hvl HOa))
          | ((with_reducible refine atOp (.store 32 _ _) ?_); refine wpList_store_ownR1 (ds := ({ k with v4 := u9, es := k.es ++ [y], ess := k.ess ++ [cs] } : MV).cells) 1 rfl 32 _ _ rfl _ 4 u9 rfl rfl HO9 rfl info1RE ?_ hone9 rfl ?_; (· show 4 + 1 ≤ 9; decide); (clear HO9; intro w9 HO9)))
         have HOn := mq_push4 (b := s1.2) (by rw [← hn0.out]; exact HO9)
         clear HO9
         go_roundg fu
         case measure => omega
         case rel => exact MRel.step HOn (.cons _ (List.Sublist.refl _)) HR.out hs0 Hp.out hc hr.out rfl (fun _ => rfl) HM.out hb1 hog hfn (fun e hpq => { (hlen.out hs0).mono (show j ≤ q by omega) with l4 := by have := (hlen.out hs0).l4; simp only [List.length_append, List.length_cons, List.length_nil]; omega })
        ·have t2 : ((toB W).toList == [101, 110, 117, 109]) = false := (toB_lit W _).trans (decide_eq_false c2)
         replace c2 := Yq c2
         go_upto_region 32 with fail
         by_cases c3 : W = Sx.bOneof
         ·have t3 : ((toB W).toList == [111, 110, 101, 111, 102]) = true := (toB_lit W _).trans (decide_eq_true c3)
          replace c3 := Yq c3
          obtain ⟨ub, ud, n2, hn2, hv2, HOb⟩ := mq_at2 HO
          have cu2 : wc.cell? ⟨gM, 2, none⟩ = some (.slice ub n2 ud) := ((HO.own.at 0 rfl).cell (o := 2) rfl).trans (by rw [hv2.out])
          have hn3 : n2 ≤ 10000 := by have := (hlen.out hs0).l2; have := hn2.out; have := Hfew.out; omega
          clear HOb
          have HC := Yq (fun w0 hb => HOf.out (p + 1) (n2 + 1) w0 hb (by omega))
          have hr : Hid (Sy.partR ts (Sy.partsL ts fu) deep k.msg p = (Sy.Msg.oneofed k.msg (Sy.oneofR ts (p + 1) (n2 + 1)).1, (Sy.oneofR ts (p + 1) (n2 + 1)).2)) := Yq (by rw [Sy.part_word HWd.out, if_neg c1.out, if_neg c2.out, if_pos c3.out, hn2.out]; rfl)
          have hoe := Sy.oneof_end (ts := ts) (i := p + 1) (k := n2 + 1)
          generalize Sy.oneofR ts (p + 1) (n2 + 1) = B at *
          obtain ⟨⟨t0, ys0⟩, q, s1⟩ := B
          dsimp only at HC hr hoe
          go_upto_region 36 with (first
           | (go_at_call 83; (refine (HC.out _ HO.below).mono ?_); rintro e w3 ⟨t, vv, ys, rfl, hfl, heq, hb⟩; obtain ⟨va, vc, rfl, hyc, _, hyn, _⟩ := hfl.1; replace HO := HO.with hb (X := fun q => FlatB fC q (.slice va ys.length vc) ys) (fun _ _ hle q => q.mono hle) hfl; have hyl := hfl.2; clear hb hfl)
           | ((with_reducible refine atOp (.store 100 _ _) ?_); (refine wpList_store_ownR 1 rfl 100 _ _ rfl _ 0 (stC s1) rfl rfl HO rfl infoStp (Nat.le_refl _) (one_stC _) (patch_whole' _ _ rfl) ?_; clear HO; intro w6 HO))
           | fail)
          obtain ⟨u2a, u2c, n4, hn4, hv4, HOa⟩ := mq_at2 HO
          obtain ⟨u1a, u1c, n1, hn1, hv1, _⟩ := mq_at1 HO
          have cu4 : w6.cell? ⟨gM, 2, none⟩ = some (.slice u2a n4 u2c) := ((HO.own.at 0 rfl).cell (o := 2) rfl).trans (by rw [hv4.out])
          have hn5 : (n4 + 1) * 16 ≤ 140737488355328 := by have := hn4.out; have := hn2.out; omega
          have hn6 : (n1 + ys.length) * 112 ≤ 140737488355328 := by have := (hlen.out hs0).l1; have := hn1.out; have := Hfew.out; omega
          clear HO cu2
          go_upto_region 37 with (first
           | ((with_reducible refine atOp (.buildSlice _ _ _) ?_); refine wpList_buildSlice1 rfl 42 9 _ rfl (sC t) (.string (toB t)) rfl Tryz.underlying42 infoStr (by simp [sC]) (by simp [sC]) rfl ?_)
           | (at_builtin; refine wpList_append_ownR T_St rfl _ _ rfl (sC t) HOa rfl rfl rfl (one_sC t) hn5 ?_; (intro u9 w9 HO9 hone9; clear cu4 HOa))
           | ((with_reducible refine atOp (.store 42 _ _) ?_); refine wpList_store_ownR1 (ds := ({ k with v2 := u9, os := k.os ++ [t] } : MV).cells) 0 rfl 42 _ _ rfl _ 2 u9 rfl rfl HO9 rfl info_slS ?_ hone9 rfl ?_; (· show 2 + 1 ≤ 9; decide); (clear HO9; intro w9 HO9)))
          have HO2 := mq_push2 (k := k) (y := t) (u := u9) (by rw [← hn4.out]; exact HO9)
          have cu1 : w9.cell? ⟨gM, 1, none⟩ = some (.slice u1a n1 u1c) := ((HO2.own.at 0 rfl).cell (o := 1) rfl).trans (by show some k.v1 = _; rw [hv1.out])
          have hrow := HO2.hrow (fun _ q => q)
          obtain ⟨u3a, u3c, n3, hn3', hv3, HO3⟩ := mq_at1 HO2
          have hv5 := Yq (hv3.out.symm.trans hv1.out : Value.slice u3a n3 u3c = .slice u1a n1 u1c)
          clear HO9
          go_wp2_with (first
           | (at_builtin; refine wpList_append_ownRs T_RF rfl _ _ rfl HO3 hv5.out.symm rfl hyn hyc hrow (flat_len (s := 10) (fun _ => rfl) ys) (ones_flat one_fC ys) (by rw [hn3'.out, show ({ k with v2 := u9, os := k.os ++ [t] } : MV).fs.length = n1 from hn1.out.symm]; exact hn6) ?_; (intro u8 w8 HO9 hone9; clear cu1 HO3 hrow))
           | ((with_reducible refine atOp (.store 60 _ _) ?_); refine wpList_store_ownR1 (ds := ({ k with v2 := u9, os := k.os ++ [t], v1 := u8, fs := k.fs ++ ys } : MV).cells) 0 rfl 60 _ _ rfl _ 1 u8 rfl rfl HO9 rfl info1RF ?_ hone9 rfl ?_; (· show 1 + 1 ≤ 9; decide); (clear HO9; intro w9 HO9)))
          have HO10 := (mq_add1 (RD := fun q => MRd 0 k q ∧ FlatB fC q (.slice va ys.length vc) ys) (k := { k with v2 := u9, os := k.os ++ [t] }) (ys := ys) (u := u8) (by rw [← hn3'.out]; exact HO9)).read (RD' := MRd s1.2 { k with v2 := u9, os := k.os ++ [t], v1 := u8, fs := k.fs ++ ys }) (MRd.mono _ _) (fun q _ => q.1 rfl)
          have HOn := HO10
          clear HO9
          go_roundg fu
          case measure => omega
          case rel => exact MRel.step HOn (List.Sublist.refl _) HR.out hs0 Hp.out hc hr.out rfl (fun e => by obtain ⟨e1, e2⟩ := heq e; subst e1; subst e2; rfl) HM.out hb1 hog hfn (fun e hpq => by
            obtain ⟨e1, e2⟩ := heq e
            have h3 := hoe e
            subst e2
            exact { (hlen.out hs0).mono (show j ≤ q by omega) with l1 := by have := (hlen.out hs0).l1; simp only [List.length_append]; omega, l2 := by have := (hlen.out hs0).l2; simp only [List.length_append, List.length_cons, List.length_nil]; omega })
         ·have t3 : ((toB W).toList == [111, 110, 101, 111, 102]) = false := (toB_lit W _).trans (decide_eq_false c3)
          replace c3 := Yq c3
          go_upto_region 38 with fail
          by_cases c4 : W = Sx.bReserved
          ·have t4 : ((toB W).toList == [114, 101, 115, 101, 114, 118, 101, 100]) = true := (toB_lit W _).trans (decide_eq_true c4)
           replace c4 := Yq c4
           have HC := Yq (fun w0 hb => HRs.out (p + 1) w0 hb (by omega))
           have hr : Hid (Sy.partR ts (Sy.partsL ts fu) deep k.msg p = (Sy.Msg.reservedOf k.msg (Sy.reservedR ts (p + 1)).1, (Sy.reservedR ts (p + 1)).2)) := Yq (by rw [Sy.part_word HWd.out, if_neg c1.out, if_neg c2.out, if_neg c3.out, if_pos c4.out])
           have hoe := Sy.reserved_end (ts := ts) (i := p + 1) (Sy.isAt_lt ts (by rw [HWd.out Sx.bReserved (by decide)]; exact decide_eq_true c4.out : Sy.isAt ts p 1 Sx.bReserved = true))
           generalize Sy.reservedR ts (p + 1) = B at *
           obtain ⟨⟨rs0, ns0⟩, q, s1⟩ := B
           dsimp only at HC hr hoe
           go_upto_region 42 with (first
            | (go_at_call 84; (refine (HC.out _ HO.below).mono ?_); rintro e w3 ⟨v8, v9, rs, ns, rfl, hf8, hf9, heq, hb⟩; obtain ⟨va, vc, rfl, hyc, _, hyn, _⟩ := hf8.1; obtain ⟨vb, vd, rfl, hzc, _, hzn, _⟩ := hf9.1; replace HO := HO.with hb (X := fun q => FlatB rC q (.slice va rs.length vc) rs ∧ FlatB sC q (.slice vb ns.length vd) ns) (fun _ _ hle q => ⟨q.1.mono hle, q.2.mono hle⟩) ⟨hf8, hf9⟩; have hyl := hf8.2; have hzl := hf9.2; clear hb hf8 hf9)
            | ((with_reducible refine atOp (.store 100 _ _) ?_); (refine wpList_store_ownR 1 rfl 100 _ _ rfl _ 0 (stC s1) rfl rfl HO rfl infoStp (Nat.le_refl _) (one_stC _) (patch_whole' _ _ rfl) ?_; clear HO; intro w6 HO))
            | fail)
           obtain ⟨u5a, u5c, n5, hn5, hv5, HOa⟩ := mq_at5 HO
           obtain ⟨u6a, u6c, n6, hn6, hv6, _⟩ := mq_at6 HO
           have cu5 : w6.cell? ⟨gM, 5, none⟩ = some (.slice u5a n5 u5c) := ((HO.own.at 0 rfl).cell (o := 5) rfl).trans (by rw [hv5.out])
           have hrow := HO.hrow (fun _ q => q.1)
           have hm5 : (n5 + rs.length) * 16 ≤ 140737488355328 := by have := (hlen.out hs0).l5; have := hn5.out; have := Hfew.out; omega
           have hm6 : (n6 + ns.length) * 16 ≤ 140737488355328 := by have := (hlen.out hs0).l6; have := hn6.out; have := Hfew.out; omega
           clear HO
           go_upto_region 43 with (first
            | (at_builtin; refine wpList_append_ownRs T_RR rfl _ _ rfl HOa rfl rfl hyn hyc hrow (flat_len (s := 2) (fun _ => rfl) rs) (ones_flat one_rC rs) hm5 ?_; (intro u9 w9 HO9 hone9; clear cu5 HOa hrow))
            | ((with_reducible refine atOp (.store 61 _ _) ?_); refine wpList_store_ownR1 (ds := ({ k with v5 := u9, rs := k.rs ++ rs } : MV).cells) 0 rfl 61 _ _ rfl _ 5 u9 rfl rfl HO9 rfl info1RR ?_ hone9 rfl ?_; (· show 5 + 1 ≤ 9; decide); (clear HO9; intro w9 HO9)))
           have HO2 := mq_add5 (k := k) (ys := rs) (u := u9) (by rw [← hn5.out]; exact HO9)
           have cu6 : w9.cell? ⟨gM, 6, none⟩ = some (.slice u6a n6 u6c) := ((HO2.own.at 0 rfl).cell (o := 6) rfl).trans (by show some k.v6 = _; rw [hv6.out])
           have hrow := HO2.hrow (fun _ q => q.2)
           obtain ⟨u3a, u3c, n3, hn3', hv3, HO3⟩ := mq_at6 HO2
           have hv7 := Yq (hv3.out.symm.trans hv6.out : Value.slice u3a n3 u3c = .slice u6a n6 u6c)
           clear HO9
           go_wp2_with (first
            | (at_builtin; refine wpList_append_ownRs T_St rfl _ _ rfl HO3 hv7.out.symm rfl hzn hzc hrow (flat_len (s := 1) (fun _ => rfl) ns) (ones_flat one_sC ns) (by rw [hn3'.out, show ({ k with v5 := u9, rs := k.rs ++ rs } : MV).ns.length = n6 from hn6.out.symm]; exact hm6) ?_; (intro u8 w8 HO9 hone9; clear cu6 HO3 hrow))
            | ((with_reducible refine atOp (.store 42 _ _) ?_); refine wpList_store_ownR1 (ds := ({ k with v5 := u9, rs := k.rs ++ rs, v6 := u8, ns := k.ns ++ ns } : MV).cells) 0 rfl 42 _ _ rfl _ 6 u8 rfl rfl HO9 rfl info_slS ?_ hone9 rfl ?_; (· show 6 + 1 ≤ 9; decide); (clear HO9; intro w9 HO9)))
           have HO10 := (mq_add6 (RD := fun q => MRd 0 k q ∧ FlatB rC q (.slice va rs.length vc) rs ∧ FlatB sC q (.slice vb ns.length vd) ns) (k := { k with v5 := u9, rs := k.rs ++ rs }) (ys := ns) (u := u8) (by rw [← hn3'.out]; exact HO9)).read (RD' := MRd s1.2 { k with v5 := u9, rs := k.rs ++ rs, v6 := u8, ns := k.ns ++ ns }) (MRd.mono _ _) (fun q _ => q.1 rfl)
           have HOn := HO10
           clear HO9
           go_roundg fu
           case measure => omega
           case rel => exact MRel.step HOn (List.Sublist.refl _) HR.out hs0 Hp.out hc hr.out rfl (fun e => by obtain ⟨e1, e2⟩ := heq e; subst e1; subst e2; rfl) HM.out hb1 hog hfn (fun e hpq => by
             obtain ⟨e1, e2⟩ := heq e
             have h3 := hoe e
             subst e1; subst e2
             exact { (hlen.out hs0).mono (show j ≤ q by omega) with l5 := by have := (hlen.out hs0).l5; simp only [List.length_append]; omega, l6 := by have := (hlen.out hs0).l6; simp only [List.length_append]; omega })
          ·have t4 : ((toB W).toList == [114, 101, 115, 101, 114, 118, 101, 100]) = false := (toB_lit W _).trans (decide_eq_false c4)
           replace c4 := Yq c4
           have hp1 : p + 1 ≤ 800000 := by omega
           have hp0 : p ≤ 800000 := by omega
           go_upto_if 76 with (first
            | ((with_reducible refine atOp (.alloc 110) ?_); (refine wpList_alloc_ownR rfl 110 rfl zF zeroF8 HO ?_; clear HO; intro w1 gF HO))
            | fail)
           go_cut [1] from 54 to 208 (fun av wx => FCut w ts deep fu p gF gM gS gT g2 g1 x k av wx)
           case first =>
            cases t5 : ((toB W).toList == ([114, 101, 112, 101, 97, 116, 101, 100] : List UInt8))
            ·have c5 : Hid (¬ W = Sx.bRepeated) := Yq (of_decide_eq_false ((toB_lit W _).symm.trans t5))
             go_upto_region 18 with fail
             by_cases c6 : W = Sx.bOptional
             ·have t6 : ((toB W).toList == [111, 112, 116, 105, 111, 110, 97, 108]) = true := (toB_lit W _).trans (decide_eq_true c6)
              replace c6 := Yq c6
              have HC := Yq (fun w0 hb => HFd2.out (p + 1) w0 hb (Nat.le_trans hp1 (by decide)))
              have hr : Hid (Sy.partR ts (Sy.partsL ts fu) deep k.msg p = _) := Yq ((Sy.part_word HWd.out).trans (by rw [if_neg c1.out, if_neg c2.out, if_neg c3.out, if_neg c4.out, if_neg c5.out, if_pos c6.out]))
              generalize Sy.field ts (p + 1) 2 0 = B at *
              obtain ⟨y, q, s1⟩ := B
              dsimp only at HC hr
              go_wp2_with (first
               | (go_at_call 85; (refine (HC.out _ HO.below).mono ?_); rintro e w3 ⟨rfl, hb⟩; replace HO := HO.call hb; clear hb)
               | ((with_reducible refine atOp (.store 110 _ _) ?_); (refine wpList_store_ownR 0 rfl 110 _ _ rfl _ 0 (fC y) rfl rfl HO rfl infoF8 (Nat.le_refl _) (one_fC _) (patch_whole' _ _ rfl) ?_; clear HO; intro w6 HO))
               | ((with_reducible refine atOp (.store 100 _ _) ?_); (refine wpList_store_ownR 2 rfl 100 _ _ rfl _ 0 (stC s1) rfl rfl HO rfl infoStp (Nat.le_refl _) (one_stC _) (patch_whole' _ _ rfl) ?_; clear HO; intro w6 HO))
               | fail)
              go_meet
              exact ⟨y, q, s1, rfl, Yq HO, hr⟩
             ·have t6 : ((toB W).toList == [111, 112, 116, 105, 111, 110, 97, 108]) = false := (toB_lit W _).trans (decide_eq_false c6)
              replace c6 := Yq c6
              go_upto_region 20 with fail
              by_cases c7 : W = Sx.bMap
              ·have t7 : ((toB W).toList == [109, 97, 112]) = true := (toB_lit W _).trans (decide_eq_true c7)
               replace c7 := Yq c7
               have HI7 := Yq (fun w0 hb => HI.out (p + 1) 4 [60] w0 hb)
               cases h7 : Sy.isAt ts (p + 1) 4 [60]
               ·rw [h7] at HI7
                have HC := Yq (fun w0 hb => HFd1.out p w0 hb (Nat.le_trans hp0 (by decide)))
                have hr : Hid (Sy.partR ts (Sy.partsL ts fu) deep k.msg p = _) := Yq ((Sy.part_word HWd.out).trans (by rw [if_neg c1.out, if_neg c2.out, if_neg c3.out, if_neg c4.out, if_neg c5.out, if_neg c6.out, if_neg (fun e => by rw [h7] at e; cases e.2)]))
                generalize Sy.field ts p 1 0 = B at *
                obtain ⟨y, q, s1⟩ := B
                dsimp only at HC hr
                go_wp2_with (first
                 | (go_at_call 85; (refine (HC.out _ HO.below).mono ?_); rintro e w3 ⟨rfl, hb⟩; replace HO := HO.call hb; clear hb)
                 | ((with_reducible refine atOp (.store 110 _ _) ?_); (refine wpList_store_ownR 0 rfl 110 _ _ rfl _ 0 (fC y) rfl rfl HO rfl infoF8 (Nat.le_refl _) (one_fC _) (patch_whole' _ _ rfl) ?_; clear HO; intro w6 HO))
                 | ((with_reducible refine atOp (.store 100 _ _) ?_); (refine wpList_store_ownR 2 rfl 100 _ _ rfl _ 0 (stC s1) rfl rfl HO rfl infoStp (Nat.le_refl _) (one_stC _) (patch_whole' _ _ rfl) ?_; clear HO; intro w6 HO))
                 | (go_at_call 59; (refine (HI7.out _ HO.below).mono ?_); rintro e w3 ⟨rfl, rfl⟩)
                 | fail)
                go_meet
                exact ⟨y, q, s1, rfl, Yq HO, hr⟩
               ·rw [h7] at HI7
                have HC := Yq (fun w0 hb => HMp.out (p + 1) w0 hb (Nat.le_trans hp1 (by decide)))
                have hr : Hid (Sy.partR ts (Sy.partsL ts fu) deep k.msg p = _) := Yq ((Sy.part_word HWd.out).trans (by rw [if_neg c1.out, if_neg c2.out, if_neg c3.out, if_neg c4.out, if_neg c5.out, if_neg c6.out, if_pos ⟨c7.out, h7⟩]))
                generalize Sy.mapped ts (p + 1) = B at *
                obtain ⟨y, q, s1⟩ := B
                dsimp only at HC hr
                go_wp2_with (first
                 | (go_at_call 86; (refine (HC.out _ HO.below).mono ?_); rintro e w3 ⟨rfl, hb⟩; replace HO := HO.call hb; clear hb)
                 | ((with_reducible refine atOp (.store 110 _ _) ?_); (refine wpList_store_ownR 0 rfl 110 _ _ rfl _ 0 (fC y) rfl rfl HO rfl infoF8 (Nat.le_refl _) (one_fC _) (patch_whole' _ _ rfl) ?_; clear HO; intro w6 HO))
                 | ((with_reducible refine atOp (.store 100 _ _) ?_); (refine wpList_store_ownR 2 rfl 100 _ _ rfl _ 0 (stC s1) rfl rfl HO rfl infoStp (Nat.le_refl _) (one_stC _) (patch_whole' _ _ rfl) ?_; clear HO; intro w6 HO))
                 | (go_at_call 59; (refine (HI7.out _ HO.below).mono ?_); rintro e w3 ⟨rfl, rfl⟩)
                 | fail)
                go_meet
                exact ⟨y, q, s1, rfl, Yq HO, hr⟩
              ·have t7 : ((toB W).toList == [109, 97, 112]) = false := (toB_lit W _).trans (decide_eq_false c7)
               replace c7 := Yq c7
               have HC := Yq (fun w0 hb => HFd1.out p w0 hb (Nat.le_trans hp0 (by decide)))
               have hr : Hid (Sy.partR ts (Sy.partsL ts fu) deep k.msg p = _) := Yq ((Sy.part_word HWd.out).trans (by rw [if_neg c1.out, if_neg c2.out, if_neg c3.out, if_neg c4.out, if_neg c5.out, if_neg c6.out, if_neg (fun e => c7.out e.1)]))
               generalize Sy.field ts p 1 0 = B at *
               obtain ⟨y, q, s1⟩ := B
               dsimp only at HC hr
               go_wp2_with (first
                | (go_at_call 85; (refine (HC.out _ HO.below).mono ?_); rintro e w3 ⟨rfl, hb⟩; replace HO := HO.call hb; clear hb)
                | ((with_reducible refine atOp (.store 110 _ _) ?_); (refine wpList_store_ownR 0 rfl 110 _ _ rfl _ 0 (fC y) rfl rfl HO rfl infoF8 (Nat.le_refl _) (one_fC _) (patch_whole' _ _ rfl) ?_; clear HO; intro w6 HO))
                | ((with_reducible refine atOp (.store 100 _ _) ?_); (refine wpList_store_ownR 2 rfl 100 _ _ rfl _ 0 (stC s1) rfl rfl HO rfl infoStp (Nat.le_refl _) (one_stC _) (patch_whole' _ _ rfl) ?_; clear HO; intro w6 HO))
                | fail)
               go_meet
               exact ⟨y, q, s1, rfl, Yq HO, hr⟩
            ·have c5 : Hid (W = Sx.bRepeated) := Yq (of_decide_eq_true ((toB_lit W _).symm.trans t5))
             have HC := Yq (fun w0 hb => HFd3.out (p + 1) w0 hb (Nat.le_trans hp1 (by decide)))
             have hr : Hid (Sy.partR ts (Sy.partsL ts fu) deep k.msg p = _) := Yq ((Sy.part_word HWd.out).trans (by rw [if_neg c1.out, if_neg c2.out, if_neg c3.out, if_neg c4.out, if_pos c5.out]))
             generalize Sy.field ts (p + 1) 3 0 = B at *
             obtain ⟨y, q, s1⟩ := B
             dsimp only at HC hr
             go_wp2_with (first
              | (go_at_call 85; (refine (HC.out _ HO.below).mono ?_); rintro e w3 ⟨rfl, hb⟩; replace HO := HO.call hb; clear hb)
              | ((with_reducible refine atOp (.store 110 _ _) ?_); (refine wpList_store_ownR 0 rfl 110 _ _ rfl _ 0 (fC y) rfl rfl HO rfl infoF8 (Nat.le_refl _) (one_fC _) (patch_whole' _ _ rfl) ?_; clear HO; intro w6 HO))
              | ((with_reducible refine atOp (.store 100 _ _) ?_); (refine wpList_store_ownR 2 rfl 100 _ _ rfl _ 0 (stC s1) rfl rfl HO rfl infoStp (Nat.le_refl _) (one_stC _) (patch_whole' _ _ rfl) ?_; clear HO; intro w6 HO))
              | fail)
             go_meet
             exact ⟨y, q, s1, rfl, Yq HO, hr⟩
           case rest =>
            obtain ⟨y, q, s1, rfl, HO1, hr⟩ := hcut
            clear HO
            have HO := HO1.out
            obtain ⟨ua, uc, n0, hn0, hv, HOa⟩ := mq_at1 HO
            have cu : wc.cell? ⟨gM, 1, none⟩ = some (.slice ua n0 uc) := ((HO.own.at 1 rfl).cell (o := 1) rfl).trans (by rw [hv.out])
            have hvl := (HO.own.at 0 rfl).whole
            have hn5 : (n0 + 1) * 112 ≤ 140737488355328 := by have := (hlen.out hs0).l1; have := hn0.out; have := Hfew.out; omega
            clear HO HO1
            go_wp2_with (first
             | ((with_reducible refine atOp (.load 110 _) ?_); refine wpList_load_seg rfl 110 _ rfl _ _ rfl _ _ hvl Tryz.underlying110 rfl infoF8 ?_)
             | ((with_reducible refine atOp (.buildSlice _ _ _) ?_); refine wpList_buildSlice1 rfl 60 110 _ rfl (fC y) (.agg (fC y).toArray) rfl Tryz.underlying60 info2RF (show 0 < 10 by decide) (show 10 ≤ 1000 by decide) rfl ?_)
             | (at_builtin; refine wpList_append_ownR T_RF rfl _ _ rfl (fC y) HOa rfl rfl rfl (one_fC _) hn5 ?_; (intro u9 w9 HO9 hone9; clear cu hvl HOa))
             | ((with_reducible refine atOp (.store 60 _ _) ?_); refine wpList_store_ownR1 (ds := ({ k with v1 := u9, fs := k.fs ++ [y] } : MV).cells) 1 rfl 60 _ _ rfl _ 1 u9 rfl rfl HO9 rfl info1RF ?_ hone9 rfl ?_; (· show 1 + 1 ≤ 9; decide); (clear HO9; intro w9 HO9)))
            have HOn := mq_push1 (b := s1.2) (by rw [← hn0.out]; exact HO9)
            clear HO9
            go_roundg fu
            case measure => omega
            case rel => exact MRel.step HOn (.cons _ (List.Sublist.refl _)) HR.out hs0 Hp.out hc hr.out rfl (fun _ => rfl) HM.out hb1 hog hfn (fun e hpq => { (hlen.out hs0).mono (show j ≤ q by omega) with l1 := by have := (hlen.out hs0).l1; simp only [List.length_append, List.length_cons, List.length_nil]; omega })
     ·rw [hc] at HI5
      have hvr := Sy.PartL.ok HR.out hs0
      rw [Sy.partsL_end (by rw [Hp.out]; exact hc), Hp.out] at hvr
      have HRe : Hid (R = (k.msg, p + 1, Sy.none0)) := Yq hvr
      have HRe2 : Hid (R.2 = (p + 1, Sy.none0)) := Yq (by rw [hvr])
      have hone := mv_ones HO
      have hrd := mq_read HO (hlen.out hs0) (by omega)
      clear HR hvr
      go_wp2_with (first
     | (go_at_call 82; (refine (HS1.out _ HO.below).mono ?_); rintro e w3 ⟨rfl, rfl⟩)
     | (go_at_call 59; (refine (HI5.out _ HO.below).mono ?_); rintro e w3 ⟨rfl, rfl⟩)
     | ((with_reducible refine atOp (.load 63 _) ?_); (refine wpList_load_ownR 0 rfl 63 _ rfl _ rfl HO rfl _ Tryz.underlying63 rfl infoRM ?_))
     | ((with_reducible refine atOp (.store 63 _ _) ?_); (refine wpList_store_ownR 4 rfl 63 _ _ rfl _ 0 (k.cells) rfl rfl HO rfl infoRM (Nat.le_refl _) (hone) (patch_whole' _ _ rfl) ?_; clear HO; intro w8 HO))
     | ((with_reducible refine atOp (.store 100 _ _) ?_); (refine wpList_store_ownR 3 rfl 100 _ _ rfl _ 0 (stC Sy.none0) rfl rfl HO rfl infoStp (Nat.le_refl _) (one_stC _) (patch_whole' _ _ rfl) ?_; clear HO; intro w9 HO))
     | fail)
      refine bodyPost_ret (v := .tuple #[.agg (k.cells).toArray, .int .i64 R.2.1, .agg (stC R.2.2).toArray]) ?_ rfl ⟨k.cells, rfl, rfl, hone, (fun _ => by rw [HRe.out]; exact mq_read HO (hlen.out hs0) (by omega)), HO.below⟩
      exact results_ctc rfl (by kernel_rfl) (by rw [HRe2.out]; kernel_rfl) (by kernel_rfl) (run_load_blk (HO.own.at 4 rfl) _ Tryz.underlying63 rfl infoRM) (by rw [HRe2.out]; exact run_load_blk (HO.own.at 3 rfl) _ Tryz.underlying100 rfl infoStp)
    ·obtain ⟨z, hz⟩ : ∃ z, z = (s.2 : Int) := ⟨_, rfl⟩
     have e1 : wr.cell? ⟨gS, 1, none⟩ = some (.int .i64 z) := ((HO.own.at 1 rfl).cell (o := 1) rfl).trans (by rw [hz])
     have q1 : (z == 0) = false := by rw [beq_eq_false_iff_ne]; omega
     have HRe : Hid (R.2 = (j, s)) := Yq (Sy.PartL.bad HR.out hs0)
     have hnz : R.2.2.2 ≠ 0 := by rw [HRe.out]; exact hs0
     have hone := mv_ones HO
     clear HR hz
     go_upto_region 44 with fail
     refine wp_ret6 (by kernel_rfl) (by kernel_rfl) rfl (fun _ _ _ _ _ h => h) HO.own (.int .i64 (j)) 0 1 4 3 rfl rfl rfl rfl (by decide) (by decide) (by decide) rfl (by kernel_rfl) (.inl rfl) (by kernel_rfl) rfl (by kernel_rfl) rfl rfl (by kernel_rfl) (by kernel_rfl) (.inr rfl) (by kernel_rfl) rfl rfl (by kernel_rfl) (by kernel_rfl) Tryz.underlying63 rfl infoRM rfl (hone) Tryz.underlying100 rfl infoStp rfl (one_stC _) ?_
     intro w9 HO9
     go_wp2_with fail
     refine bodyPost_ret (v := .tuple #[.agg (k.cells).toArray, .int .i64 R.2.1, .agg (stC R.2.2).toArray]) ?_ rfl ⟨k.cells, rfl, rfl, hone, (fun e => absurd e hnz), HO9.below⟩
     exact results_ctc rfl (by kernel_rfl) (by rw [HRe.out]; kernel_rfl) (by kernel_rfl) (run_load_blk (HO9.at 4 rfl) _ Tryz.underlying63 rfl infoRM) (by rw [HRe.out]; exact run_load_blk (HO9.at 3 rfl) _ Tryz.underlying100 rfl infoStp)
 ·obtain ⟨z, hz⟩ : ∃ z, z = (s0.2 : Int) := ⟨_, rfl⟩
  have e1 : w6.cell? ⟨_, 1, none⟩ = some (.int .i64 z) := ((HO.at 0 rfl).cell (o := 1) rfl).trans (by rw [hz])
  have q1 : (z == 0) = false := by rw [beq_eq_false_iff_ne]; omega
  have HRe : Hid (R.2 = (i, s0)) := Yq (by rw [HR.out, if_pos (by simpa using h0), hnb0 h0])
  have hnz : R.2.2.2 ≠ 0 := by rw [HRe.out]; exact h0
  clear HR hnb0 hne0 hle0
  go_upto_region 3 with fail
  refine wp_ret6b (by kernel_rfl) (by kernel_rfl) rfl (fun _ _ _ _ _ h => h) HO (.int .i64 (i)) zMs 0 3 2 rfl rfl rfl (by decide) (by decide) (fun _ => by kernel_rfl) (.inl rfl) (by kernel_rfl) rfl (by kernel_rfl) rfl rfl (by kernel_rfl) (by kernel_rfl) (.inr rfl) (by kernel_rfl) rfl rfl (by kernel_rfl) (by kernel_rfl) infoRM rfl one_zMs Tryz.underlying100 rfl infoStp rfl (one_stC _) ?_
  intro w9 HO9
  go_wp2_with fail
  refine bodyPost_ret (v := .tuple #[.agg (zMs).toArray, .int .i64 R.2.1, .agg (stC R.2.2).toArray]) ?_ rfl ⟨zMs, rfl, rfl, one_zMs, (fun e => absurd e hnz), HO9.below⟩
  exact results_ctc rfl (by kernel_rfl) (by rw [HRe.out]; kernel_rfl) (by kernel_rfl) (run_load_blk (HO9.at 3 rfl) _ Tryz.underlying63 rfl infoRM) (by rw [HRe.out]; exact run_load_blk (HO9.at 2 rfl) _ Tryz.underlying100 rfl infoStp)
end Go.Proofs.YtpcfdngnmigkfaaGreatDoor
