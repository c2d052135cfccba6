/- Package scopes, walked: a name in a scope; a type added to the table. -/
import Derived.Test.YtiofhfcohhfihaaGreatDoorSxText
import Derived.Test.YtiofhfcohhfihaaGreatDoorScPlain
import Derived.Test.YtiofhfcohhfihaaGreatDoorScMap
namespace Go.Proofs.YtiofhfcohhfihaaGreatDoor
open Go.RowKit
set_option linter.unusedVariables false
set_option linter.unusedSimpArgs false

theorem fScAddA8_93 {P : Program} {md : Region.Mode} {ops : Array Oper} {Q : Exit → Act → World → Prop} {P0 P1 : World → Prop} {fin fuel : Nat} {b0 b1 b2 b3 b4 b5 b6 b7 : Bool} {x0 x1 x2 x3 x4 x5 x6 x7 x8 x9 x10 x11 x12 x13 x14 x15 x16 x17 x18 x19 x20 x21 x22 x23 x24 x25 x26 x27 x28 x29 x30 x31 x32 x33 x34 x35 x36 x37 x38 x39 x40 x41 x42 x43 x44 x45 x46 x47 x48 x49 x50 x51 x52 x53 x54 x55 x56 x57 x58 x59 x60 x61 x62 x63 x64 x65 x66 x67 x68 x69 x70 x71 x72 x73 x74 x75 x76 x77 x78 x79 x80 x81 x82 x83 x84 x85 x86 x87 x88 x89 x90 x91 x92 : Value} {d} {w : World} (h : wpAnyG P md ops Q P0 P1 fin fuel #[b0, b1, b2, b3, b4, b5, b6, b7] ⟨#[x0, x1, x2, x3, x4, x5, x6, x7, x8, x9, x10, x11, x12, x13, x14, x15, x16, x17, x18, x19, x20, x21, x22, x23, x24, x25, x26, x27, x28, x29, x30, x31, x32, x33, x34, x35, x36, x37, x38, x39, x40, x41, x42, x43, x44, x45, x46, x47, x48, x49, x50, x51, x52, x53, x54, x55, x56, x57, x58, x59, x60, x61, x62, x63, x64, x65, x66, x67, x68, x69, x70, x71, x72, x73, x74, x75, x76, x77, x78, x79, x80, x81, x82, x83, x84, x85, x86, x87, x88, x89, x90, x91, x92], d⟩ w) : wpAnyG P md ops Q P0 P1 fin fuel #[b0, b1, b2, b3, b4, b5, b6, b7] ⟨#[x0, x1, x2, x3, x4, x5, x6, x7, x8, x9, x10, x11, x12, x13, x14, x15, x16, x17, x18, x19, x20, x21, x22, x23, x24, x25, x26, x27, x28, x29, x30, x31, x32, x33, x34, x35, x36, x37, x38, x39, x40, x41, x42, x43, x44, x45, x46, x47, x48, x49, x50, x51, x52, x53, x54, x55, x56, x57, x58, x59, x60, x61, x62, x63, x64, x65, x66, x67, x68, x69, x70, x71, x72, x73, x74, x75, x76, x77, x78, x79, x80, x81, x82, x83, x84, x85, x86, x87, x88, x89, x90, x91, x92], d⟩ w := h
theorem fScAddA11_93 {P : Program} {md : Region.Mode} {ops : Array Oper} {Q : Exit → Act → World → Prop} {P0 P1 : World → Prop} {fin fuel : Nat} {b0 b1 b2 b3 b4 b5 b6 b7 b8 b9 b10 : Bool} {x0 x1 x2 x3 x4 x5 x6 x7 x8 x9 x10 x11 x12 x13 x14 x15 x16 x17 x18 x19 x20 x21 x22 x23 x24 x25 x26 x27 x28 x29 x30 x31 x32 x33 x34 x35 x36 x37 x38 x39 x40 x41 x42 x43 x44 x45 x46 x47 x48 x49 x50 x51 x52 x53 x54 x55 x56 x57 x58 x59 x60 x61 x62 x63 x64 x65 x66 x67 x68 x69 x70 x71 x72 x73 x74 x75 x76 x77 x78 x79 x80 x81 x82 x83 x84 x85 x86 x87 x88 x89 x90 x91 x92 : Value} {d} {w : World} (h : wpAnyG P md ops Q P0 P1 fin fuel #[b0, b1, b2, b3, b4, b5, b6, b7, b8, b9, b10] ⟨#[x0, x1, x2, x3, x4, x5, x6, x7, x8, x9, x10, x11, x12, x13, x14, x15, x16, x17, x18, x19, x20, x21, x22, x23, x24, x25, x26, x27, x28, x29, x30, x31, x32, x33, x34, x35, x36, x37, x38, x39, x40, x41, x42, x43, x44, x45, x46, x47, x48, x49, x50, x51, x52, x53, x54, x55, x56, x57, x58, x59, x60, x61, x62, x63, x64, x65, x66, x67, x68, x69, x70, x71, x72, x73, x74, x75, x76, x77, x78, x79, x80, x81, x82, x83, x84, x85, x86, x87, x88, x89, x90, x91, x92], d⟩ w) : wpAnyG P md ops Q P0 P1 fin fuel #[b0, b1, b2, b3, b4, b5, b6, b7, b8, b9, b10] ⟨#[x0, x1, x2, x3, x4, x5, x6, x7, x8, x9, x10, x11, x12, x13, x14, x15, x16, x17, x18, x19, x20, x21, x22, x23, x24, x25, x26, x27, x28, x29, x30, x31, x32, x33, x34, x35, x36, x37, x38, x39, x40, x41, x42, x43, x44, x45, x46, x47, x48, x49, x50, x51, x52, x53, x54, x55, x56, x57, x58, x59, x60, x61, x62, x63, x64, x65, x66, x67, x68, x69, x70, x71, x72, x73, x74, x75, x76, x77, x78, x79, x80, x81, x82, x83, x84, x85, x86, x87, x88, x89, x90, x91, x92], d⟩ w := h
theorem fScAddA18_93 {P : Program} {md : Region.Mode} {ops : Array Oper} {Q : Exit → Act → World → Prop} {P0 P1 : World → Prop} {fin fuel : Nat} {b0 b1 b2 b3 b4 b5 b6 b7 b8 b9 b10 b11 b12 b13 b14 b15 b16 b17 : Bool} {x0 x1 x2 x3 x4 x5 x6 x7 x8 x9 x10 x11 x12 x13 x14 x15 x16 x17 x18 x19 x20 x21 x22 x23 x24 x25 x26 x27 x28 x29 x30 x31 x32 x33 x34 x35 x36 x37 x38 x39 x40 x41 x42 x43 x44 x45 x46 x47 x48 x49 x50 x51 x52 x53 x54 x55 x56 x57 x58 x59 x60 x61 x62 x63 x64 x65 x66 x67 x68 x69 x70 x71 x72 x73 x74 x75 x76 x77 x78 x79 x80 x81 x82 x83 x84 x85 x86 x87 x88 x89 x90 x91 x92 : Value} {d} {w : World} (h : wpAnyG P md ops Q P0 P1 fin fuel #[b0, b1, b2, b3, b4, b5, b6, b7, b8, b9, b10, b11, b12, b13, b14, b15, b16, b17] ⟨#[x0, x1, x2, x3, x4, x5, x6, x7, x8, x9, x10, x11, x12, x13, x14, x15, x16, x17, x18, x19, x20, x21, x22, x23, x24, x25, x26, x27, x28, x29, x30, x31, x32, x33, x34, x35, x36, x37, x38, x39, x40, x41, x42, x43, x44, x45, x46, x47, x48, x49, x50, x51, x52, x53, x54, x55, x56, x57, x58, x59, x60, x61, x62, x63, x64, x65, x66, x67, x68, x69, x70, x71, x72, x73, x74, x75, x76, x77, x78, x79, x80, x81, x82, x83, x84, x85, x86, x87, x88, x89, x90, x91, x92], d⟩ w) : wpAnyG P md ops Q P0 P1 fin fuel #[b0, b1, b2, b3, b4, b5, b6, b7, b8, b9, b10, b11, b12, b13, b14, b15, b16, b17] ⟨#[x0, x1, x2, x3, x4, x5, x6, x7, x8, x9, x10, x11, x12, x13, x14, x15, x16, x17, x18, x19, x20, x21, x22, x23, x24, x25, x26, x27, x28, x29, x30, x31, x32, x33, x34, x35, x36, x37, x38, x39, x40, x41, x42, x43, x44, x45, x46, x47, x48, x49, x50, x51, x52, x53, x54, x55, x56, x57, x58, x59, x60, x61, x62, x63, x64, x65, x66, x67, x68, x69, x70, x71, x72, x73, x74, x75, x76, x77, x78, x79, x80, x81, x82, x83, x84, x85, x86, x87, x88, x89, x90, x91, x92], d⟩ w := h

/-- a type's five cells -/
def tyC (t : Sc.Ty) : List Value := [.string (toB t.full), .bool t.enum, .int .i64 t.index, .int .i64 t.line, .int .i64 t.col]
def zTy : List Value := [.string ⟨#[]⟩, .bool false, .int .i64 0, .int .i64 0, .int .i64 0]
theorem tyC_len (t : Sc.Ty) : (tyC t).length = 5 := rfl
theorem one_tyC (t : Sc.Ty) : ∀ u ∈ tyC t, u.oneCell' = true := by
  intro u hu; simp only [tyC, List.mem_cons, List.not_mem_nil, or_false] at hu
  rcases hu with rfl | rfl | rfl | rfl | rfl <;> rfl
theorem T_Ty : SliceT Tryz.prog 70 59 (.agg zTy.toArray) 5 48 := ⟨Tryz.underlying70, by kernel_rfl, rfl, by decide, by decide⟩
theorem infoTy : (Tryz.prog.info? 59).map (·.size) = some 5 := by kernel_rfl
theorem infoTys : (Tryz.prog.info? 70).map (·.size) = some 1 := by kernel_rfl
theorem zinfoTy : (Tryz.prog.info? 59).map (fun i => (i.size, i.zero.map (fun z => z.cells.size))) = some (5, some 5) := by kernel_rfl
theorem int_info : (Tryz.prog.info? 3).map (·.size) = some 1 := by kernel_rfl
theorem ty_build (s : ByteArray) (e : Bool) (i l c : Int) (w : World) : (Instr.build 59 #[(0, .string s), (1, .bool e), (2, .int .i64 i), (3, .int .i64 l), (4, .int .i64 c)]).run Tryz.prog w = .ok (.agg #[.string s, .bool e, .int .i64 i, .int .i64 l, .int .i64 c]) w := by kernel_rfl
theorem ty_buildX (F : Lx.Bs) (e : Bool) (i li co : Nat) (w : World) : (Instr.build 59 #[(0, .string (toB F)), (1, .bool e), (2, .int .i64 (i : Nat)), (3, .int .i64 (li : Nat)), (4, .int .i64 (co : Nat))]).run Tryz.prog w = .ok (.agg (tyC ⟨F, e, i, li, co⟩).toArray) w := ty_build _ _ _ _ _ _
def names (l : List Sc.Ty) : List ByteArray := (Sc.fulls l).map toB
theorem names_len (l : List Sc.Ty) : (names l).length = l.length := by unfold names Sc.fulls; rw [List.length_map, List.length_map]
theorem toB_inj {a b : Lx.Bs} (h : toB a = toB b) : a = b := by
  have := congrArg (fun x => x.data.toList) h
  simpa [toB_list] using this
theorem names_mem (l : List Sc.Ty) (f : Lx.Bs) : toB f ∈ names l ↔ f ∈ Sc.fulls l := by
  unfold names
  rw [List.mem_map]
  constructor
  · rintro ⟨x, hx, e⟩
    rw [← toB_inj e]; exact hx
  · exact fun h => ⟨f, h, rfl⟩
theorem names_has (l : List Sc.Ty) (f : Lx.Bs) : decide (Num.ix (names l) (toB f) < (names l).length) = decide (f ∈ Sc.fulls l) := by
  rw [Bool.eq_iff_iff]
  simp only [decide_eq_true_iff]
  rw [Num.ix_mem, names_mem]
theorem names_snoc (l : List Sc.Ty) (t : Sc.Ty) : names (l ++ [t]) = names l ++ [toB t.full] := by unfold names Sc.fulls; simp
theorem count_le (l : List Sc.Ty) (e : Bool) : Sc.count l e ≤ l.length := List.length_filter_le _ _
theorem count_snoc (l : List Sc.Ty) (t : Sc.Ty) (e : Bool) : Sc.count (l ++ [t]) e = Sc.count l e + (if t.enum = e then 1 else 0) := by
  unfold Sc.count
  rw [List.filter_append, List.length_append]
  congr 1
  by_cases h : t.enum = e
  · rw [if_pos h, List.filter_cons_of_pos (by simp [h])]; rfl
  · rw [if_neg h, List.filter_cons_of_neg (by simp [h])]; rfl

/-- what scopes needs of the variables -/
structure VarsU (A : Nat → Addr) (w : World) : Prop where
  d : VarsD A w
  dup : w.cell? ⟨3, 0, none⟩ = some (errV (A 10))
theorem VarsU.keep {A : Nat → Addr} {w w' : World} (h : VarsU A w) (hb : Below w.heap.size w w') : VarsU A w' :=
  ⟨h.d.keep hb, (hb.cell (p := ⟨_, _, _⟩) (World.block_lt_of_cell? w _ h.dup)).trans h.dup⟩

def tabC (v : Value) (b : Nat) (l : List Sc.Ty) : List Value := [v, .map (some b), .int .i64 (Sc.count l false : Nat), .int .i64 (Sc.count l true : Nat)]
/-- a table: its block, its row of types, its map of places; since w0 only new blocks were turned -/
structure TabV (w0 : World) (g : Nat) (K : List (Nat × List Value)) (l : List Sc.Ty) (v : Value) (b : Nat) (w : World) : Prop where
  blk : Blk w g (tabC v b l)
  own : w.ownsRow w0.heap.size 59 5 v l.length (l.flatMap tyC)
  map : MapIs w b l.length (names l)
  ges : w0.heap.size ≤ b ∧ w0.heap.size ≤ g ∧ b ≠ g ∧ v.ownBlock ≠ some g
  below : Below w0.heap.size w0 w
  rest : ∀ x ∈ K, Blk w x.1 x.2 ∧ x.1 ≠ g ∧ x.1 ≠ b ∧ v.ownBlock ≠ some x.1
def Tab (w0 : World) (g : Nat) (K : List (Nat × List Value)) (l : List Sc.Ty) (w : World) : Prop := ∃ v b, TabV w0 g K l v b w
theorem TabV.keep {w0 w w' : World} {g : Nat} {K : List (Nat × List Value)} {l : List Sc.Ty} {v : Value} {b : Nat} (h : TabV w0 g K l v b w) (hb : Below w.heap.size w w') : TabV w0 g K l v b w' :=
  ⟨h.blk.below hb h.blk.lt, owns_below h.own hb, h.map.kept (row := none) (grown_of_below hb none) (by simp), h.ges, h.below.trans (hb.mono h.below.size), fun x hx => ⟨(h.rest x hx).1.below hb (h.rest x hx).1.lt, (h.rest x hx).2⟩⟩
theorem Tab.keep {w0 w w' : World} {g : Nat} {K : List (Nat × List Value)} {l : List Sc.Ty} (h : Tab w0 g K l w) (hb : Below w.heap.size w w') : Tab w0 g K l w' := by
  obtain ⟨v, b, h⟩ := h
  exact ⟨v, b, h.keep hb⟩
theorem TabV.drew {w0 w : World} {g : Nat} {K : List (Nat × List Value)} {l : List Sc.Ty} {v : Value} {b : Nat} (h : TabV w0 g K l v b w) : TabV w0 g K l v b w.drew := ⟨h.blk, h.own, h.map, h.ges, h.below.drew, h.rest⟩
/-- blocks that stay, told or not -/
theorem Tab.sub {w0 w : World} {g : Nat} {K K' : List (Nat × List Value)} {l : List Sc.Ty} (h : Tab w0 g K l w) (hs : ∀ x ∈ K', x ∈ K) : Tab w0 g K' l w := by
  obtain ⟨v, b, h⟩ := h
  exact ⟨v, b, h.blk, h.own, h.map, h.ges, h.below, fun x hx => h.rest x (hs x hx)⟩
theorem Tab.blk {w0 w : World} {g : Nat} {K : List (Nat × List Value)} {l : List Sc.Ty} (h : Tab w0 g K l w) (i : Nat) {k : Nat} {cs : List Value} (hi : K[i]? = some (k, cs)) : Blk w k cs := by
  obtain ⟨v, b, h⟩ := h
  exact (h.rest _ (List.mem_of_getElem? hi)).1
theorem Tab.below {w0 w : World} {g : Nat} {K : List (Nat × List Value)} {l : List Sc.Ty} (h : Tab w0 g K l w) : Below w0.heap.size w0 w := by
  obtain ⟨v, b, h⟩ := h
  exact h.below
/-- a block more that stays: one that was laid since -/
theorem Tab.more {w0 w w' : World} {g : Nat} {K : List (Nat × List Value)} {l : List Sc.Ty} (h : Tab w0 g K l w) (hb : Below w.heap.size w w') {k : Nat} {cs : List Value} (hB : Blk w' k cs) (hk : w.heap.size ≤ k) : Tab w0 g ((k, cs) :: K) l w' := by
  obtain ⟨v, b, h⟩ := h
  have h2 := h.keep hb
  refine ⟨v, b, h2.blk, h2.own, h2.map, h2.ges, h2.below, fun x hx => ?_⟩
  rcases List.mem_cons.1 hx with rfl | hx
  · have h3 := h.blk.lt
    have h4 := h.map.lt.1
    exact ⟨hB, fun e => by omega, fun e => by omega, fun e => by have := (h.own.lt k e).2; omega⟩
  · exact h2.rest x hx
theorem map_not_own {w : World} {b n : Nat} {kn : List ByteArray} (h : MapIs w b n kn) {base : Nat} {e : TypeId} {size : Nat} {v : Value} {m : Nat} {xs : List Value} (ho : w.ownsRow base e size v m xs) : some b ≠ v.ownBlock := by
  intro e2
  rcases ho.2 with ⟨rfl, _⟩ | ⟨g, cap, cur, rfl, _, hg, _⟩
  · simp [Value.ownBlock] at e2
  · simp [Value.ownBlock] at e2
    subst e2
    exact h.lt.2 _ _ _ hg
theorem own_sl {w : World} {base : Nat} {e : TypeId} {size : Nat} {v : Value} {n : Nat} {xs : List Value} (h : w.ownsRow base e size v n xs) : ∃ a c, v = .slice a n c := by
  rcases h.2 with ⟨rfl, rfl⟩ | ⟨g, cap, cur, rfl, _⟩
  · exact ⟨_, _, rfl⟩
  · exact ⟨_, _, rfl⟩
def FaultV (A : Nat → Addr) (x : Sc.Bad) (ev : Value) (w' : World) : Prop :=
  ∃ gf, ev = .iface 80 (.pointer (some ⟨gf, 0, none⟩)) ∧ Blk w' gf [.int .i64 (x.2.1 : Nat), .int .i64 (x.2.2 : Nat), errV (A (x.1 - 1))]
theorem FaultV.keep {A : Nat → Addr} {w' w'' : World} {x : Sc.Bad} {ev : Value} (h : FaultV A x ev w') (hb : Below w'.heap.size w' w'') : FaultV A x ev w'' := by
  obtain ⟨gf, h1, h2⟩ := h
  exact ⟨gf, h1, h2.below hb h2.lt⟩
/-- what add answers -/
def AddPost (A : Nat → Addr) (w0 : World) (g : Nat) (K : List (Nat × List Value)) (r : List Sc.Ty × Option Sc.Bad) (full : Lx.Bs) (e : Ending) (w' : World) : Prop :=
  Tab w0 g K r.1 w' ∧ match r.2 with
  | none => e = .returned (.tuple #[.string (toB full), .nilIface])
  | some x => ∃ ev, e = .returned (.tuple #[.string ⟨#[]⟩, ev]) ∧ FaultV A x ev w'

section
variable {P : Program} {op : Oper} {a : Act} {w : World} {K : Act → World → Prop} {Q : Exit → Act → World → Prop}
theorem wp_box_lay (ty : TypeId) (x : Operand) (ho : op.op = .box ty x) (cs : List Value) (hx : a.eval x = .agg cs.toArray)
    (h : K (a.put op.dst (.pointer (some ⟨w.heap.size, 0, none⟩))) (w.alloc (.cells cs.toArray ty))) : op.wp P a w K Q := by
  unfold Oper.wp execOp
  simp only [ho, hx, Instr.box, newVar, newRow, Value.cells, Sem.run_bind, Sem.run_pure, run_newObj, Result.andThen_ok]
  exact h
theorem wp_mapUpdate (ty : TypeId) (m k v : Operand) (ho : op.op = .mapUpdate ty m k v) {mv kv vv : Value} {w' : World} (hm : a.eval m = mv) (hk : a.eval k = kv) (hv : a.eval v = vv) (hr : (Instr.mapUpdate ty mv kv vv).run P w = .ok () w')
    (h : K (a.put op.dst undef) w') : op.wp P a w K Q := by
  unfold Oper.wp execOp
  simp only [ho, hm, hk, hv, Sem.run_bind, hr, Sem.run_pure, Result.andThen_ok]
  exact h
end

theorem toB_three (s n : Lx.Bs) : toB s ++ (⟨#[46]⟩ : ByteArray) ++ toB n = toB (s ++ [46] ++ n) := by
  rw [show (⟨#[46]⟩ : ByteArray) = toB [46] from rfl, toB_cat, toB_cat]
theorem toB_nil_beq (s : Lx.Bs) : ((toB s).toList == []) = decide (s = []) := by
  have := toB_beq s []
  rw [show (toB []).toList = [] from by rw [Lib.toList_data, toB_list]] at this
  exact this

set_option maxHeartbeats 1000000 in
set_option maxRecDepth 100000 in
theorem within_any (s n : Lx.Bs) (w : World) (hs : s.length ≤ 40000000) (hn : n.length ≤ 40000000) :
    Calls Tryz.prog 56 #[.string (toB s), .string (toB n)] w fun e w' => e = .returned (.string (toB (Sc.within s n))) ∧ w' = w := by
  have q := toB_nil_beq s
  unfold Sc.within
  by_cases h : s = []
  · subst h
    rw [if_pos rfl]
    have q2 : (toB []).toList.isEmpty = true := isEmpty_yes (by rw [toB_size]; rfl)
    go_enter Tryz.func56, Tryz.ntmps56
    go_wp2_with fail
    go_ret
    exact ⟨rfl, rfl⟩
  · rw [decide_eq_false h] at q
    rw [if_neg h]
    have q2 : (toB s).toList.isEmpty = false := isEmpty_no (by rw [toB_size]; exact fun e => h (List.eq_nil_of_length_eq_zero e))
    have h1 : (toB s).size ≤ 40000000 := by rw [toB_size]; exact hs
    have h2 : (toB n).size ≤ 40000000 := by rw [toB_size]; exact hn
    have HC := Lib.hid (toB_three s n)
    clear hs hn
    go_enter Tryz.func56, Tryz.ntmps56
    go_wp2_with fail
    go_ret
    exact ⟨congrArg (fun b => Ending.returned (.string b)) HC.out, rfl⟩
theorem within_len (s n : Lx.Bs) : (Sc.within s n).length ≤ s.length + n.length + 1 := by
  unfold Sc.within
  split
  · omega
  · simp only [List.length_append, List.length_cons, List.length_nil]; omega

set_option maxHeartbeats 8000000 in
set_option maxRecDepth 100000 in
theorem add_any (A : Nat → Addr) (w0 : World) (g : Nat) (KS : List (Nat × List Value)) (l : List Sc.Ty) (s n : Lx.Bs) (en : Bool) (li co : Nat) (w : World) (hV : VarsU A w) (hs : s.length ≤ 30000000) (hn : n.length ≤ 5000) (hl : l.length ≤ 40) (hT : Tab w0 g KS l w) :
    Calls Tryz.prog 86 #[.pointer (some ⟨g, 0, none⟩), .string (toB s), .string (toB n), .bool en, .int .i64 li, .int .i64 co] w (AddPost A w0 g KS (Sc.add1 l ⟨Sc.within s n, en, li, co⟩) (Sc.within s n)) := by
  have HW := Lib.hid (within_any s n w (by omega) (by omega))
  have hflen := within_len s n
  generalize Sc.within s n = F at *
  have hF : (toB F).size ≤ maxLen := by rw [toB_size]; unfold maxLen; omega
  obtain ⟨v, b, hT⟩ := hT
  obtain ⟨va, vc, rfl⟩ := own_sl hT.own
  obtain ⟨c, hlook, hc⟩ := hT.map.look (toB F) hF
  rw [names_has] at hlook
  have c0 : w.cell? ⟨g, 0, none⟩ = some (.slice va l.length vc) := hT.blk.cell (o := 0) rfl
  have c1 : w.cell? ⟨g, 1, none⟩ = some (.map (some b)) := hT.blk.cell (o := 1) rfl
  have HT := Lib.hid hT
  have hdup := hV.dup
  have hlong := hV.d.vars.long
  unfold errV at hdup hlong
  unfold Sc.add1
  dsimp only
  clear hV hc hT
  by_cases hin : F ∈ Sc.fulls l
  · rw [if_pos hin]
    rw [decide_eq_true hin] at hlook
    clear hin hF hflen hs hn hl
    obtain ⟨n, hnl⟩ : ∃ n, n = l.length := ⟨_, rfl⟩
    rw [← hnl] at c0
    clear hnl
    go_enter Tryz.func86, Tryz.ntmps86
    go_wp2_with fail
    refine HW.out.mono ?_
    rintro e w1 ⟨rfl, rfl⟩
    go_upto_region 4 with fail
    have HV4 := Lib.hid hdup
    have hP : w1.drew.cell? ⟨3, 0, none⟩ = some (.iface 264 (.pointer (some (A 10)))) := hdup
    clear c0 c1 hlook hdup hlong
    refine wp_region_G 99 (fun w' => w'.cell? ⟨3, 0, none⟩ = some (.iface 264 (.pointer (some (A 10))))) (fun _ => True) (by kernel_rfl) hP trivial (fun _ => ?_)
    refine fScAddA8_93 ?_
    refine wpAnyG_take0 (i := 0) (v := .int .i64 li) rfl (by kernel_rfl) (fun _ _ _ h => h) (.inl ⟨by rfl, fun w hw => by go_simp⟩) (InvG.mk hP trivial) ?_
    refine fScAddA8_93 ?_
    refine wpAnyG_take0 (i := 1) (v := .int .i64 co) rfl (by kernel_rfl) (fun _ _ _ h => h) (.inl ⟨by rfl, fun w hw => by go_simp⟩) (InvG.mk hP trivial) ?_
    refine fScAddA8_93 ?_
    refine wpAnyG_take0 (i := 2) (v := .iface 264 (.pointer (some (A 10)))) rfl (by kernel_rfl) (fun _ _ _ h => h) (.inl ⟨by rfl, fun w hw => by have hc := hw; clear hw; go_simp⟩) (InvG.mk hP trivial) ?_
    refine fScAddA8_93 ?_
    refine wpAnyG_take0 (i := 3) (v := .agg #[.int .i64 li, .int .i64 co, .iface 264 (.pointer (some (A 10)))]) rfl (by kernel_rfl) (fun _ _ _ h => h) (.inl ⟨by rfl, fun w hw => by go_simp⟩) (InvG.mk hP trivial) ?_
    refine fScAddA8_93 ?_
    refine wpAnyG_take0 (i := 6) (v := .string ⟨#[]⟩) rfl (by kernel_rfl) (fun _ _ _ h => h) (.inl ⟨by rfl, fun w hw => by go_simp⟩) (InvG.mk hP trivial) ?_
    refine fScAddA8_93 ?_
    refine wpAnyG_ready (rs := [4]) (by kernel_rfl) (by simp) ?_
    refine AllReadyG.plain rfl rfl (fun K hK => ?_) AllReadyG.nil
    refine wp_box_lay 82 _ rfl [.int .i64 li, .int .i64 co, .iface 264 (.pointer (some (A 10)))] rfl ?_
    have hP5 : (w1.drew.alloc (.cells ([.int .i64 li, .int .i64 co, .iface 264 (.pointer (some (A 10)))] : List Value).toArray 82)).cell? ⟨3, 0, none⟩ = some (.iface 264 (.pointer (some (A 10)))) := (Below.cell (p := ⟨_, _, _⟩) ((Below.refl w1.drew.heap.size w1.drew).alloc (Nat.le_refl _) _) (World.block_lt_of_cell? w1.drew _ hP)).trans hP
    refine hK.out _ _ (InvG.mk hP5 trivial) (fun _ => ?_)
    clear hK
    refine fScAddA8_93 ?_
    refine wpAnyG_take0 (i := 5) (v := .iface 80 (.pointer (some ⟨w1.drew.heap.size, 0, none⟩))) rfl (by kernel_rfl) (fun _ _ _ h => h) (.inl ⟨by rfl, fun w hw => by go_simp⟩) (InvG.mk hP5 trivial) ?_
    refine fScAddA8_93 ?_
    refine wpAnyG_take0 (i := 7) (v := .iface 80 (.pointer (some ⟨w1.drew.heap.size, 0, none⟩))) rfl (by kernel_rfl) (fun _ _ _ h => h) (.inl ⟨by rfl, fun w hw => by go_simp⟩) (InvG.mk hP5 trivial) ?_
    refine fScAddA8_93 ?_
    refine wpAnyG_done (by kernel_rfl) ?_ _
    have hB := Blk.new w1.drew 82 [.int .i64 li, .int .i64 co, .iface 264 (.pointer (some (A 10)))]
    have hb : Below w1.heap.size w1 (w1.drew.alloc (.cells ([.int .i64 li, .int .i64 co, .iface 264 (.pointer (some (A 10)))] : List Value).toArray 82)) := (Below.refl w1.heap.size w1).drew.alloc (Nat.le_refl _) _
    go_wp2_with fail
    go_ret2
    exact ⟨⟨_, b, HT.out.keep hb⟩, _, rfl, _, rfl, hB⟩
  · rw [if_neg hin]
    rw [decide_eq_false hin] at hlook
    have Hin := Lib.hid hin
    clear hin
    by_cases hfull : 40 ≤ l.length
    · rw [if_pos hfull]
      obtain ⟨n, hnl⟩ : ∃ n, n = l.length := ⟨_, rfl⟩
      rw [← hnl] at c0 hfull hl
      have hge : (n : Int) ≥ 40 := by omega
      clear hF hflen hs hn hnl
      go_enter Tryz.func86, Tryz.ntmps86
      go_wp2_with fail
      refine HW.out.mono ?_
      rintro e w1 ⟨rfl, rfl⟩
      go_upto_region 6 with fail
      have HV4 := Lib.hid hlong
      have hP : w1.drew.cell? ⟨0, 0, none⟩ = some (.iface 264 (.pointer (some (A 2)))) := hlong
      clear c0 c1 hlook hdup hlong
      refine wp_region_G 99 (fun w' => w'.cell? ⟨0, 0, none⟩ = some (.iface 264 (.pointer (some (A 2))))) (fun _ => True) (by kernel_rfl) hP trivial (fun _ => ?_)
      refine fScAddA8_93 ?_
      refine wpAnyG_take0 (i := 0) (v := .int .i64 li) rfl (by kernel_rfl) (fun _ _ _ h => h) (.inl ⟨by rfl, fun w hw => by go_simp⟩) (InvG.mk hP trivial) ?_
      refine fScAddA8_93 ?_
      refine wpAnyG_take0 (i := 1) (v := .int .i64 co) rfl (by kernel_rfl) (fun _ _ _ h => h) (.inl ⟨by rfl, fun w hw => by go_simp⟩) (InvG.mk hP trivial) ?_
      refine fScAddA8_93 ?_
      refine wpAnyG_take0 (i := 2) (v := .iface 264 (.pointer (some (A 2)))) rfl (by kernel_rfl) (fun _ _ _ h => h) (.inl ⟨by rfl, fun w hw => by have hc := hw; clear hw; go_simp⟩) (InvG.mk hP trivial) ?_
      refine fScAddA8_93 ?_
      refine wpAnyG_take0 (i := 3) (v := .agg #[.int .i64 li, .int .i64 co, .iface 264 (.pointer (some (A 2)))]) rfl (by kernel_rfl) (fun _ _ _ h => h) (.inl ⟨by rfl, fun w hw => by go_simp⟩) (InvG.mk hP trivial) ?_
      refine fScAddA8_93 ?_
      refine wpAnyG_take0 (i := 6) (v := .string ⟨#[]⟩) rfl (by kernel_rfl) (fun _ _ _ h => h) (.inl ⟨by rfl, fun w hw => by go_simp⟩) (InvG.mk hP trivial) ?_
      refine fScAddA8_93 ?_
      refine wpAnyG_ready (rs := [4]) (by kernel_rfl) (by simp) ?_
      refine AllReadyG.plain rfl rfl (fun K hK => ?_) AllReadyG.nil
      refine wp_box_lay 82 _ rfl [.int .i64 li, .int .i64 co, .iface 264 (.pointer (some (A 2)))] rfl ?_
      have hP5 : (w1.drew.alloc (.cells ([.int .i64 li, .int .i64 co, .iface 264 (.pointer (some (A 2)))] : List Value).toArray 82)).cell? ⟨0, 0, none⟩ = some (.iface 264 (.pointer (some (A 2)))) := (Below.cell (p := ⟨_, _, _⟩) ((Below.refl w1.drew.heap.size w1.drew).alloc (Nat.le_refl _) _) (World.block_lt_of_cell? w1.drew _ hP)).trans hP
      refine hK.out _ _ (InvG.mk hP5 trivial) (fun _ => ?_)
      clear hK
      refine fScAddA8_93 ?_
      refine wpAnyG_take0 (i := 5) (v := .iface 80 (.pointer (some ⟨w1.drew.heap.size, 0, none⟩))) rfl (by kernel_rfl) (fun _ _ _ h => h) (.inl ⟨by rfl, fun w hw => by go_simp⟩) (InvG.mk hP5 trivial) ?_
      refine fScAddA8_93 ?_
      refine wpAnyG_take0 (i := 7) (v := .iface 80 (.pointer (some ⟨w1.drew.heap.size, 0, none⟩))) rfl (by kernel_rfl) (fun _ _ _ h => h) (.inl ⟨by rfl, fun w hw => by go_simp⟩) (InvG.mk hP5 trivial) ?_
      refine fScAddA8_93 ?_
      refine wpAnyG_done (by kernel_rfl) ?_ _
      have hB := Blk.new w1.drew 82 [.int .i64 li, .int .i64 co, .iface 264 (.pointer (some (A 2)))]
      have hb : Below w1.heap.size w1 (w1.drew.alloc (.cells ([.int .i64 li, .int .i64 co, .iface 264 (.pointer (some (A 2)))] : List Value).toArray 82)) := (Below.refl w1.heap.size w1).drew.alloc (Nat.le_refl _) _
      go_wp2_with fail
      go_ret2
      exact ⟨⟨_, b, HT.out.keep hb⟩, _, rfl, _, rfl, hB⟩
    · rw [if_neg hfull]
      have hF2 := hF
      obtain ⟨n, hnl⟩ : ∃ n, n = l.length := ⟨_, rfl⟩
      have hge : ¬ (n : Int) ≥ 40 := by omega
      have hge2 : (n : Int) < 40 := by omega
      have Hnl := Lib.hid hnl.symm
      have Hlt : Hid (l.length < 40) := Lib.hid (by omega)
      have HF := Lib.hid hF
      have hq0 : Sc.count l false ≤ 40 := Nat.le_trans (count_le l false) hl
      have hq1 : Sc.count l true ≤ 40 := Nat.le_trans (count_le l true) hl
      rw [← hnl] at c0
      clear hF hflen hs hn hnl hfull hdup hlong hl hF2
      cases en
      · go_enter Tryz.func86, Tryz.ntmps86
        go_wp2_with fail
        refine HW.out.mono ?_
        rintro e w1 ⟨rfl, rfl⟩
        go_upto_region 10 with fail
        have hP : Blk w1.drew g (tabC (.slice va n vc) b l) := by have := HT.out.blk; rw [Hnl.out] at this; exact this
        clear c0 c1 hlook
        obtain ⟨w2, hrun, hmap2, hgr2⟩ := (HT.out.drew.map).put (toB F) HF.out (by have := Hlt.out; omega) (by
          have h1 := Num.ix_le (names l) (toB F)
          have h2 : ¬ Num.ix (names l) (toB F) < (names l).length := by rw [Num.ix_mem, names_mem]; exact Hin.out
          omega) (by rw [names_len]; have := Hlt.out; omega)
        rw [names_len, Hnl.out] at hrun
        refine wp_region_G 10 (fun _ => True) (fun w' => Blk w' g (tabC (.slice va n vc) b l)) (by kernel_rfl) trivial hP (fun _ => ?_)
        refine fScAddA11_93 ?_
        refine wpAnyG_take (i := 0) (v := .pointer (some ⟨g, 0, none⟩)) rfl (by kernel_rfl) (fun _ _ _ h => h) (.inl ⟨by rfl, fun w hw => by go_simp⟩) (InvG.mk trivial hP) ?_
        refine fScAddA11_93 ?_
        refine wpAnyG_take (i := 1) (v := .pointer (some ⟨g, 0, none⟩)) rfl (by kernel_rfl) (fun _ _ _ h => h) (.inl ⟨by rfl, fun w hw => by go_simp⟩) (InvG.mk trivial hP) ?_
        refine fScAddA11_93 ?_
        refine wpAnyG_take (i := 2) (v := .pointer (some ⟨g, 1, none⟩)) rfl (by kernel_rfl) (fun _ _ _ h => h) (.inl ⟨by rfl, fun w hw => by go_simp⟩) (InvG.mk trivial hP) ?_
        refine fScAddA11_93 ?_
        refine wpAnyG_take (i := 3) (v := .map (some b)) rfl (by kernel_rfl) (fun _ _ _ h => h) (.inl ⟨by rfl, fun w hw => by have hc := hw.2.cell (o := 1) (u := .map (some b)) rfl; clear hw; go_simp⟩) (InvG.mk trivial hP) ?_
        refine fScAddA11_93 ?_
        refine wpAnyG_take (i := 4) (v := .string (toB F)) rfl (by kernel_rfl) (fun _ _ _ h => h) (.inl ⟨by rfl, fun w hw => by go_simp⟩) (InvG.mk trivial hP) ?_
        refine fScAddA11_93 ?_
        refine wpAnyG_take (i := 5) (v := .pointer (some ⟨g, 0, none⟩)) rfl (by kernel_rfl) (fun _ _ _ h => h) (.inl ⟨by rfl, fun w hw => by go_simp⟩) (InvG.mk trivial hP) ?_
        refine fScAddA11_93 ?_
        refine wpAnyG_take (i := 6) (v := .pointer (some ⟨g, 0, none⟩)) rfl (by kernel_rfl) (fun _ _ _ h => h) (.inl ⟨by rfl, fun w hw => by go_simp⟩) (InvG.mk trivial hP) ?_
        refine fScAddA11_93 ?_
        refine wpAnyG_take (i := 7) (v := .pointer (some ⟨g, 0, none⟩)) rfl (by kernel_rfl) (fun _ _ _ h => h) (.inl ⟨by rfl, fun w hw => by go_simp⟩) (InvG.mk trivial hP) ?_
        refine fScAddA11_93 ?_
        refine wpAnyG_take (i := 8) (v := .slice va n vc) rfl (by kernel_rfl) (fun _ _ _ h => h) (.inl ⟨by rfl, fun w hw => by have hc := hw.2.cell (o := 0) (u := .slice va n vc) rfl; clear hw; go_simp⟩) (InvG.mk trivial hP) ?_
        refine fScAddA11_93 ?_
        refine wpAnyG_take (i := 9) (v := .int .i64 n) rfl (by kernel_rfl) (fun _ _ _ h => h) (.inl ⟨by rfl, fun w hw => by go_simp⟩) (InvG.mk trivial hP) ?_
        refine fScAddA11_93 ?_
        refine wpAnyG_ready (rs := [10]) (by kernel_rfl) (by simp) ?_
        refine AllReadyG.plain rfl rfl (fun K hK => ?_) AllReadyG.nil
        refine wp_mapUpdate 116 _ _ _ rfl rfl rfl rfl hrun ?_
        refine hK.out _ _ (InvG.past trivial (by kernel_rfl)) (fun _ => ?_)
        clear hK
        refine fScAddA11_93 ?_
        refine wpAnyG_done (by kernel_rfl) ?_ _
        have hT1 := HT.out.drew
        have hnb : some b ≠ (Value.slice va l.length vc).ownBlock := map_not_own hT1.map hT1.own
        have hB2 : Blk w2 g (tabC (.slice va n vc) b l) := hP.grown hgr2 (fun e => hT1.ges.2.2.1 (Option.some.inj e).symm)
        have hown2 : w2.ownsRow w0.heap.size 59 5 (.slice va n vc) n (l.flatMap tyC) := by
          have h1 := hT1.own.kept hgr2 (.inr (fun e => hnb e.symm))
          rw [Hnl.out] at h1; exact h1
        have hb2 : Below w0.heap.size w0 w2 := Below.grown hT1.below hgr2 hT1.below.size (fun k e => by cases e; exact hT1.ges.1)
        have HK2 : Hid (∀ x ∈ KS, Blk w2 x.1 x.2) := Lib.hid (fun x hx => (hT1.rest x hx).1.grown hgr2 (fun e => (hT1.rest x hx).2.2.1 (Option.some.inj e)))
        have HM2 := Lib.hid hmap2; have HO2 := Lib.hid hown2; have HB2 := Lib.hid hB2; have Hb2 := Lib.hid hb2
        clear hP hrun hmap2 hgr2 hT1 hnb hown2 hb2
        go_upto_region 11 with fail
        have hP : Blk w2.drew g (tabC (.slice va n vc) b l) := HB2.out
        clear hB2
        refine wp_region_G 14 (fun _ => True) (fun w' => Blk w' g (tabC (.slice va n vc) b l)) (by kernel_rfl) trivial hP (fun _ => ?_)
        refine fScAddA18_93 ?_
        refine wpAnyG_take0 (i := 0) (v := .pointer (some ⟨g, 0, none⟩)) rfl (by kernel_rfl) (fun _ _ _ h => h) (.inl ⟨by rfl, fun w hw => by go_simp⟩) (InvG.mk trivial hP) ?_
        refine fScAddA18_93 ?_
        refine wpAnyG_take (i := 1) (v := .pointer (some ⟨g, 0, none⟩)) rfl (by kernel_rfl) (fun _ _ _ h => h) (.inl ⟨by rfl, fun w hw => by go_simp⟩) (InvG.mk trivial hP) ?_
        refine fScAddA18_93 ?_
        refine wpAnyG_take (i := 2) (v := .pointer (some ⟨g, 0, none⟩)) rfl (by kernel_rfl) (fun _ _ _ h => h) (.inl ⟨by rfl, fun w hw => by go_simp⟩) (InvG.mk trivial hP) ?_
        refine fScAddA18_93 ?_
        refine wpAnyG_take (i := 3) (v := .pointer (some ⟨g, 0, none⟩)) rfl (by kernel_rfl) (fun _ _ _ h => h) (.inl ⟨by rfl, fun w hw => by go_simp⟩) (InvG.mk trivial hP) ?_
        refine fScAddA18_93 ?_
        refine wpAnyG_take (i := 4) (v := .slice va n vc) rfl (by kernel_rfl) (fun _ _ _ h => h) (.inl ⟨by rfl, fun w hw => by have hc := hw.2.cell (o := 0) (u := .slice va n vc) rfl; clear hw; go_simp⟩) (InvG.mk trivial hP) ?_
        refine fScAddA18_93 ?_
        refine wpAnyG_take (i := 5) (v := .string (toB F)) rfl (by kernel_rfl) (fun _ _ _ h => h) (.inl ⟨by rfl, fun w hw => by go_simp⟩) (InvG.mk trivial hP) ?_
        refine fScAddA18_93 ?_
        refine wpAnyG_take (i := 6) (v := .bool false) rfl (by kernel_rfl) (fun _ _ _ h => h) (.inl ⟨by rfl, fun w hw => by go_simp⟩) (InvG.mk trivial hP) ?_
        refine fScAddA18_93 ?_
        refine wpAnyG_take (i := 7) (v := .pointer (some ⟨g, 2, none⟩)) rfl (by kernel_rfl) (fun _ _ _ h => h) (.inl ⟨by rfl, fun w hw => by go_simp⟩) (InvG.mk trivial hP) ?_
        refine fScAddA18_93 ?_
        refine wpAnyG_take (i := 8) (v := .pointer (some ⟨g, 2, none⟩)) rfl (by kernel_rfl) (fun _ _ _ h => h) (.inl ⟨by rfl, fun w hw => by go_simp⟩) (InvG.mk trivial hP) ?_
        refine fScAddA18_93 ?_
        refine wpAnyG_take (i := 9) (v := .int .i64 (Sc.count l false : Nat)) rfl (by kernel_rfl) (fun _ _ _ h => h) (.inl ⟨by rfl, fun w hw => by have hc := hw.2.cell (o := 2) (u := .int .i64 (Sc.count l false : Nat)) rfl; clear hw; go_simp⟩) (InvG.mk trivial hP) ?_
        refine fScAddA18_93 ?_
        refine wpAnyG_take (i := 10) (v := .int .i64 li) rfl (by kernel_rfl) (fun _ _ _ h => h) (.inl ⟨by rfl, fun w hw => by go_simp⟩) (InvG.mk trivial hP) ?_
        refine fScAddA18_93 ?_
        refine wpAnyG_take (i := 11) (v := .int .i64 co) rfl (by kernel_rfl) (fun _ _ _ h => h) (.inl ⟨by rfl, fun w hw => by go_simp⟩) (InvG.mk trivial hP) ?_
        refine fScAddA18_93 ?_
        refine wpAnyG_take (i := 12) (v := .agg (tyC ⟨F, false, Sc.count l false, li, co⟩).toArray) rfl (by kernel_rfl) (fun _ _ _ h => h) (.inl ⟨by rfl, fun w hw => by clear hw; go_simp; rfl⟩) (InvG.mk trivial hP) ?_
        refine fScAddA18_93 ?_
        refine wpAnyG_ready (rs := [13]) (by kernel_rfl) (by simp) ?_
        refine AllReadyG.plain rfl rfl (fun K hK => ?_) AllReadyG.nil
        refine wp_buildSlice1 70 59 _ rfl (tyC ⟨F, false, Sc.count l false, li, co⟩) (.agg (tyC ⟨F, false, Sc.count l false, li, co⟩).toArray) rfl Tryz.underlying70 zinfoTy (show 0 < 5 by decide) (show 5 ≤ 1000 by decide) rfl ?_
        have hP3 : Blk (w2.drew.alloc (.cells (tyC ⟨F, false, Sc.count l false, li, co⟩).toArray 59)) g (tabC (.slice va n vc) b l) := hP.alloc _
        refine hK.out _ _ (InvG.mk trivial hP3) (fun _ => ?_)
        clear hK
        refine fScAddA18_93 ?_
        refine wpAnyG_ready (rs := [14]) (by kernel_rfl) (by simp) ?_
        refine AllReadyG.plain rfl rfl (fun K hK => ?_) AllReadyG.nil
        refine wp_append_own1 T_Ty _ _ rfl (tyC ⟨F, false, Sc.count l false, li, co⟩) rfl (w := w2.drew) (B := w0.heap.size) (n := n) (v := .slice va n vc) HO2.out rfl rfl (one_tyC _) (by have := Hlt.out; have := Hnl.out; omega) (Hb2.out.size) ?_
        intro v' w4 hown4 hgr4 hat4 hone4
        have hB4 : Blk w4 g (tabC (.slice va n vc) b l) := Blk.grown (w := w2.drew) HB2.out hgr4 (fun e => by have h1 := HT.out.ges.2.2.2; rw [Hnl.out] at h1; exact h1 e.symm)
        refine hK.out _ _ (InvG.past trivial (by kernel_rfl)) (fun _ => ?_)
        clear hK
        refine fScAddA18_93 ?_
        refine wpAnyG_take0 (i := 15) (v := .pointer (some ⟨g, 0, none⟩)) rfl (by kernel_rfl) (fun _ _ _ h => h) (.inl ⟨by rfl, fun w hw => by go_simp⟩) (InvG.past trivial (by kernel_rfl)) ?_
        refine fScAddA18_93 ?_
        refine wpAnyG_take0 (i := 16) (v := .pointer (some ⟨g, 0, none⟩)) rfl (by kernel_rfl) (fun _ _ _ h => h) (.inl ⟨by rfl, fun w hw => by go_simp⟩) (InvG.past trivial (by kernel_rfl)) ?_
        refine fScAddA18_93 ?_
        refine wpAnyG_ready (rs := [17]) (by kernel_rfl) (by simp) ?_
        refine AllReadyG.plain rfl rfl (fun K hK => ?_) AllReadyG.nil
        refine wp_store_blk 70 _ _ rfl g 0 v' [v'] (tabC (.slice va n vc) b l) rfl rfl (by cases v' <;> first | rfl | cases hone4) hB4 infoTys (by show 0 + 1 ≤ 4; decide) (fun u hu => by rw [List.mem_singleton.1 hu]; exact hone4) ?_
        have hB5 : Blk (w4.setRow g (patch (tabC (.slice va n vc) b l) 0 [v']).toArray) g (tabC v' b l) := hB4.set _
        have hgr5 : w4.grownBy (w4.setRow g (patch (tabC (.slice va n vc) b l) 0 [v']).toArray) (some g) := setRow_grown _
        generalize w4.setRow g (patch (tabC (.slice va n vc) b l) 0 [v']).toArray = w5 at *
        refine hK.out _ _ (InvG.past trivial (by kernel_rfl)) (fun _ => ?_)
        clear hK
        refine fScAddA18_93 ?_
        refine wpAnyG_done (by kernel_rfl) ?_ _
        have hng : v'.ownBlock ≠ some g := by
          rcases hat4 with h | ⟨gn, h, hge⟩
          · rw [h]; have h1 := HT.out.ges.2.2.2; rw [Hnl.out] at h1; exact h1
          · rw [h]; intro e; cases e; have := HB2.out.lt; have h3 : w2.drew.heap.size = w2.heap.size := rfl; omega
        have hown5 := hown4.kept hgr5 (.inr hng)
        have hnb4 : some b ≠ (Value.slice va n vc).ownBlock := map_not_own HM2.out HO2.out
        have hmap5 := (MapIs.kept (w := w2.drew) HM2.out hgr4 hnb4).kept hgr5 (fun e => HT.out.ges.2.2.1 (Option.some.inj e))
        have hb5 : Below w0.heap.size w0 w5 := Below.grown (Below.grown Hb2.out.drew hgr4 Hb2.out.size (fun k hk => (HO2.out.lt k hk).1)) hgr5 (Nat.le_trans Hb2.out.size hgr4.size) (fun k e => by cases e; exact HT.out.ges.2.1)
        have hrest5 : ∀ x ∈ KS, Blk w5 x.1 x.2 ∧ x.1 ≠ g ∧ x.1 ≠ b ∧ v'.ownBlock ≠ some x.1 := fun x hx => by
          have h1 := HT.out.rest x hx
          rw [Hnl.out] at h1
          have h2 := (Blk.grown (w := w2.drew) (HK2.out x hx) hgr4 (fun e => h1.2.2.2 e.symm)).grown hgr5 (fun e => h1.2.1 (Option.some.inj e))
          refine ⟨h2, h1.2.1, h1.2.2.1, ?_⟩
          rcases hat4 with h | ⟨gn, h, hge⟩
          · rw [h]; exact h1.2.2.2
          · rw [h]; intro e; cases e; have := (HK2.out x hx).lt; have h3 : w2.drew.heap.size = w2.heap.size := rfl; omega
        have HR5 := Lib.hid hrest5
        have HO5 := Lib.hid hown5; have HM5 := Lib.hid hmap5; have Hb5 := Lib.hid hb5; have Hng := Lib.hid hng
        have cq : w5.cell? ⟨g, 2, none⟩ = some (.int .i64 (Sc.count l false : Nat)) := hB5.cell (o := 2) rfl
        clear hrest5 hP hP3 hown4 hgr4 hat4 hB4 hgr5 hng hown5 hnb4 hmap5 hb5
        go_wp2_with (first
          | (refine wpList_store_blk1 rfl 3 _ _ rfl g 2 (.int .i64 ((Sc.count l false : Nat) + 1 : Int)) rfl rfl _ hB5 int_info ?_ rfl ?_; (· show 2 + 1 ≤ 4; decide); (intro w6 hB6 hgr6 hsz6)))
        go_ret2
        have hx : Sc.tyOf l ⟨F, false, li, co⟩ = ⟨F, false, Sc.count l false, li, co⟩ := rfl
        rw [hx]
        refine ⟨⟨v', b, ?_, ?_, ?_, ⟨HT.out.ges.1, HT.out.ges.2.1, HT.out.ges.2.2.1, Hng.out⟩, Below.grown Hb5.out hgr6 Hb5.out.size (fun k e => by cases e; exact HT.out.ges.2.1), fun x hx => ⟨(HR5.out x hx).1.grown hgr6 (fun e => (HR5.out x hx).2.1 (Option.some.inj e)), (HR5.out x hx).2⟩⟩, rfl⟩
        · have e : patch (tabC v' b l) 2 [.int .i64 ((Sc.count l false : Nat) + 1 : Int)] = tabC v' b (l ++ [⟨F, false, Sc.count l false, li, co⟩]) := by
            unfold tabC
            rw [count_snoc, count_snoc]
            rfl
          rw [← e]; exact hB6
        · have h1 := HO5.out.kept hgr6 (.inr Hng.out)
          rw [List.length_append, Hnl.out, List.flatMap_append]
          simpa using h1
        · have h1 := HM5.out.kept hgr6 (fun e => HT.out.ges.2.2.1 (Option.some.inj e))
          rw [names_snoc, List.length_append]
          exact h1
      · go_enter Tryz.func86, Tryz.ntmps86
        go_wp2_with fail
        refine HW.out.mono ?_
        rintro e w1 ⟨rfl, rfl⟩
        go_upto_region 10 with fail
        have hP : Blk w1.drew g (tabC (.slice va n vc) b l) := by have := HT.out.blk; rw [Hnl.out] at this; exact this
        clear c0 c1 hlook
        obtain ⟨w2, hrun, hmap2, hgr2⟩ := (HT.out.drew.map).put (toB F) HF.out (by have := Hlt.out; omega) (by
          have h1 := Num.ix_le (names l) (toB F)
          have h2 : ¬ Num.ix (names l) (toB F) < (names l).length := by rw [Num.ix_mem, names_mem]; exact Hin.out
          omega) (by rw [names_len]; have := Hlt.out; omega)
        rw [names_len, Hnl.out] at hrun
        refine wp_region_G 10 (fun _ => True) (fun w' => Blk w' g (tabC (.slice va n vc) b l)) (by kernel_rfl) trivial hP (fun _ => ?_)
        refine fScAddA11_93 ?_
        refine wpAnyG_take (i := 0) (v := .pointer (some ⟨g, 0, none⟩)) rfl (by kernel_rfl) (fun _ _ _ h => h) (.inl ⟨by rfl, fun w hw => by go_simp⟩) (InvG.mk trivial hP) ?_
        refine fScAddA11_93 ?_
        refine wpAnyG_take (i := 1) (v := .pointer (some ⟨g, 0, none⟩)) rfl (by kernel_rfl) (fun _ _ _ h => h) (.inl ⟨by rfl, fun w hw => by go_simp⟩) (InvG.mk trivial hP) ?_
        refine fScAddA11_93 ?_
        refine wpAnyG_take (i := 2) (v := .pointer (some ⟨g, 1, none⟩)) rfl (by kernel_rfl) (fun _ _ _ h => h) (.inl ⟨by rfl, fun w hw => by go_simp⟩) (InvG.mk trivial hP) ?_
        refine fScAddA11_93 ?_
        refine wpAnyG_take (i := 3) (v := .map (some b)) rfl (by kernel_rfl) (fun _ _ _ h => h) (.inl ⟨by rfl, fun w hw => by have hc := hw.2.cell (o := 1) (u := .map (some b)) rfl; clear hw; go_simp⟩) (InvG.mk trivial hP) ?_
        refine fScAddA11_93 ?_
        refine wpAnyG_take (i := 4) (v := .string (toB F)) rfl (by kernel_rfl) (fun _ _ _ h => h) (.inl ⟨by rfl, fun w hw => by go_simp⟩) (InvG.mk trivial hP) ?_
        refine fScAddA11_93 ?_
        refine wpAnyG_take (i := 5) (v := .pointer (some ⟨g, 0, none⟩)) rfl (by kernel_rfl) (fun _ _ _ h => h) (.inl ⟨by rfl, fun w hw => by go_simp⟩) (InvG.mk trivial hP) ?_
        refine fScAddA11_93 ?_
        refine wpAnyG_take (i := 6) (v := .pointer (some ⟨g, 0, none⟩)) rfl (by kernel_rfl) (fun _ _ _ h => h) (.inl ⟨by rfl, fun w hw => by go_simp⟩) (InvG.mk trivial hP) ?_
        refine fScAddA11_93 ?_
        refine wpAnyG_take (i := 7) (v := .pointer (some ⟨g, 0, none⟩)) rfl (by kernel_rfl) (fun _ _ _ h => h) (.inl ⟨by rfl, fun w hw => by go_simp⟩) (InvG.mk trivial hP) ?_
        refine fScAddA11_93 ?_
        refine wpAnyG_take (i := 8) (v := .slice va n vc) rfl (by kernel_rfl) (fun _ _ _ h => h) (.inl ⟨by rfl, fun w hw => by have hc := hw.2.cell (o := 0) (u := .slice va n vc) rfl; clear hw; go_simp⟩) (InvG.mk trivial hP) ?_
        refine fScAddA11_93 ?_
        refine wpAnyG_take (i := 9) (v := .int .i64 n) rfl (by kernel_rfl) (fun _ _ _ h => h) (.inl ⟨by rfl, fun w hw => by go_simp⟩) (InvG.mk trivial hP) ?_
        refine fScAddA11_93 ?_
        refine wpAnyG_ready (rs := [10]) (by kernel_rfl) (by simp) ?_
        refine AllReadyG.plain rfl rfl (fun K hK => ?_) AllReadyG.nil
        refine wp_mapUpdate 116 _ _ _ rfl rfl rfl rfl hrun ?_
        refine hK.out _ _ (InvG.past trivial (by kernel_rfl)) (fun _ => ?_)
        clear hK
        refine fScAddA11_93 ?_
        refine wpAnyG_done (by kernel_rfl) ?_ _
        have hT1 := HT.out.drew
        have hnb : some b ≠ (Value.slice va l.length vc).ownBlock := map_not_own hT1.map hT1.own
        have hB2 : Blk w2 g (tabC (.slice va n vc) b l) := hP.grown hgr2 (fun e => hT1.ges.2.2.1 (Option.some.inj e).symm)
        have hown2 : w2.ownsRow w0.heap.size 59 5 (.slice va n vc) n (l.flatMap tyC) := by
          have h1 := hT1.own.kept hgr2 (.inr (fun e => hnb e.symm))
          rw [Hnl.out] at h1; exact h1
        have hb2 : Below w0.heap.size w0 w2 := Below.grown hT1.below hgr2 hT1.below.size (fun k e => by cases e; exact hT1.ges.1)
        have HK2 : Hid (∀ x ∈ KS, Blk w2 x.1 x.2) := Lib.hid (fun x hx => (hT1.rest x hx).1.grown hgr2 (fun e => (hT1.rest x hx).2.2.1 (Option.some.inj e)))
        have HM2 := Lib.hid hmap2; have HO2 := Lib.hid hown2; have HB2 := Lib.hid hB2; have Hb2 := Lib.hid hb2
        clear hP hrun hmap2 hgr2 hT1 hnb hown2 hb2
        go_upto_region 11 with fail
        have hP : Blk w2.drew g (tabC (.slice va n vc) b l) := HB2.out
        clear hB2
        refine wp_region_G 14 (fun _ => True) (fun w' => Blk w' g (tabC (.slice va n vc) b l)) (by kernel_rfl) trivial hP (fun _ => ?_)
        refine fScAddA18_93 ?_
        refine wpAnyG_take0 (i := 0) (v := .pointer (some ⟨g, 0, none⟩)) rfl (by kernel_rfl) (fun _ _ _ h => h) (.inl ⟨by rfl, fun w hw => by go_simp⟩) (InvG.mk trivial hP) ?_
        refine fScAddA18_93 ?_
        refine wpAnyG_take (i := 1) (v := .pointer (some ⟨g, 0, none⟩)) rfl (by kernel_rfl) (fun _ _ _ h => h) (.inl ⟨by rfl, fun w hw => by go_simp⟩) (InvG.mk trivial hP) ?_
        refine fScAddA18_93 ?_
        refine wpAnyG_take (i := 2) (v := .pointer (some ⟨g, 0, none⟩)) rfl (by kernel_rfl) (fun _ _ _ h => h) (.inl ⟨by rfl, fun w hw => by go_simp⟩) (InvG.mk trivial hP) ?_
        refine fScAddA18_93 ?_
        refine wpAnyG_take (i := 3) (v := .pointer (some ⟨g, 0, none⟩)) rfl (by kernel_rfl) (fun _ _ _ h => h) (.inl ⟨by rfl, fun w hw => by go_simp⟩) (InvG.mk trivial hP) ?_
        refine fScAddA18_93 ?_
        refine wpAnyG_take (i := 4) (v := .slice va n vc) rfl (by kernel_rfl) (fun _ _ _ h => h) (.inl ⟨by rfl, fun w hw => by have hc := hw.2.cell (o := 0) (u := .slice va n vc) rfl; clear hw; go_simp⟩) (InvG.mk trivial hP) ?_
        refine fScAddA18_93 ?_
        refine wpAnyG_take (i := 5) (v := .string (toB F)) rfl (by kernel_rfl) (fun _ _ _ h => h) (.inl ⟨by rfl, fun w hw => by go_simp⟩) (InvG.mk trivial hP) ?_
        refine fScAddA18_93 ?_
        refine wpAnyG_take (i := 6) (v := .bool true) rfl (by kernel_rfl) (fun _ _ _ h => h) (.inl ⟨by rfl, fun w hw => by go_simp⟩) (InvG.mk trivial hP) ?_
        refine fScAddA18_93 ?_
        refine wpAnyG_take (i := 7) (v := .pointer (some ⟨g, 3, none⟩)) rfl (by kernel_rfl) (fun _ _ _ h => h) (.inl ⟨by rfl, fun w hw => by go_simp⟩) (InvG.mk trivial hP) ?_
        refine fScAddA18_93 ?_
        refine wpAnyG_take (i := 8) (v := .pointer (some ⟨g, 3, none⟩)) rfl (by kernel_rfl) (fun _ _ _ h => h) (.inl ⟨by rfl, fun w hw => by go_simp⟩) (InvG.mk trivial hP) ?_
        refine fScAddA18_93 ?_
        refine wpAnyG_take (i := 9) (v := .int .i64 (Sc.count l true : Nat)) rfl (by kernel_rfl) (fun _ _ _ h => h) (.inl ⟨by rfl, fun w hw => by have hc := hw.2.cell (o := 3) (u := .int .i64 (Sc.count l true : Nat)) rfl; clear hw; go_simp⟩) (InvG.mk trivial hP) ?_
        refine fScAddA18_93 ?_
        refine wpAnyG_take (i := 10) (v := .int .i64 li) rfl (by kernel_rfl) (fun _ _ _ h => h) (.inl ⟨by rfl, fun w hw => by go_simp⟩) (InvG.mk trivial hP) ?_
        refine fScAddA18_93 ?_
        refine wpAnyG_take (i := 11) (v := .int .i64 co) rfl (by kernel_rfl) (fun _ _ _ h => h) (.inl ⟨by rfl, fun w hw => by go_simp⟩) (InvG.mk trivial hP) ?_
        refine fScAddA18_93 ?_
        refine wpAnyG_take (i := 12) (v := .agg (tyC ⟨F, true, Sc.count l true, li, co⟩).toArray) rfl (by kernel_rfl) (fun _ _ _ h => h) (.inl ⟨by rfl, fun w hw => by clear hw; go_simp; rfl⟩) (InvG.mk trivial hP) ?_
        refine fScAddA18_93 ?_
        refine wpAnyG_ready (rs := [13]) (by kernel_rfl) (by simp) ?_
        refine AllReadyG.plain rfl rfl (fun K hK => ?_) AllReadyG.nil
        refine wp_buildSlice1 70 59 _ rfl (tyC ⟨F, true, Sc.count l true, li, co⟩) (.agg (tyC ⟨F, true, Sc.count l true, li, co⟩).toArray) rfl Tryz.underlying70 zinfoTy (show 0 < 5 by decide) (show 5 ≤ 1000 by decide) rfl ?_
        have hP3 : Blk (w2.drew.alloc (.cells (tyC ⟨F, true, Sc.count l true, li, co⟩).toArray 59)) g (tabC (.slice va n vc) b l) := hP.alloc _
        refine hK.out _ _ (InvG.mk trivial hP3) (fun _ => ?_)
        clear hK
        refine fScAddA18_93 ?_
        refine wpAnyG_ready (rs := [14]) (by kernel_rfl) (by simp) ?_
        refine AllReadyG.plain rfl rfl (fun K hK => ?_) AllReadyG.nil
        refine wp_append_own1 T_Ty _ _ rfl (tyC ⟨F, true, Sc.count l true, li, co⟩) rfl (w := w2.drew) (B := w0.heap.size) (n := n) (v := .slice va n vc) HO2.out rfl rfl (one_tyC _) (by have := Hlt.out; have := Hnl.out; omega) (Hb2.out.size) ?_
        intro v' w4 hown4 hgr4 hat4 hone4
        have hB4 : Blk w4 g (tabC (.slice va n vc) b l) := Blk.grown (w := w2.drew) HB2.out hgr4 (fun e => by have h1 := HT.out.ges.2.2.2; rw [Hnl.out] at h1; exact h1 e.symm)
        refine hK.out _ _ (InvG.past trivial (by kernel_rfl)) (fun _ => ?_)
        clear hK
        refine fScAddA18_93 ?_
        refine wpAnyG_take0 (i := 15) (v := .pointer (some ⟨g, 0, none⟩)) rfl (by kernel_rfl) (fun _ _ _ h => h) (.inl ⟨by rfl, fun w hw => by go_simp⟩) (InvG.past trivial (by kernel_rfl)) ?_
        refine fScAddA18_93 ?_
        refine wpAnyG_take0 (i := 16) (v := .pointer (some ⟨g, 0, none⟩)) rfl (by kernel_rfl) (fun _ _ _ h => h) (.inl ⟨by rfl, fun w hw => by go_simp⟩) (InvG.past trivial (by kernel_rfl)) ?_
        refine fScAddA18_93 ?_
        refine wpAnyG_ready (rs := [17]) (by kernel_rfl) (by simp) ?_
        refine AllReadyG.plain rfl rfl (fun K hK => ?_) AllReadyG.nil
        refine wp_store_blk 70 _ _ rfl g 0 v' [v'] (tabC (.slice va n vc) b l) rfl rfl (by cases v' <;> first | rfl | cases hone4) hB4 infoTys (by show 0 + 1 ≤ 4; decide) (fun u hu => by rw [List.mem_singleton.1 hu]; exact hone4) ?_
        have hB5 : Blk (w4.setRow g (patch (tabC (.slice va n vc) b l) 0 [v']).toArray) g (tabC v' b l) := hB4.set _
        have hgr5 : w4.grownBy (w4.setRow g (patch (tabC (.slice va n vc) b l) 0 [v']).toArray) (some g) := setRow_grown _
        generalize w4.setRow g (patch (tabC (.slice va n vc) b l) 0 [v']).toArray = w5 at *
        refine hK.out _ _ (InvG.past trivial (by kernel_rfl)) (fun _ => ?_)
        clear hK
        refine fScAddA18_93 ?_
        refine wpAnyG_done (by kernel_rfl) ?_ _
        have hng : v'.ownBlock ≠ some g := by
          rcases hat4 with h | ⟨gn, h, hge⟩
          · rw [h]; have h1 := HT.out.ges.2.2.2; rw [Hnl.out] at h1; exact h1
          · rw [h]; intro e; cases e; have := HB2.out.lt; have h3 : w2.drew.heap.size = w2.heap.size := rfl; omega
        have hown5 := hown4.kept hgr5 (.inr hng)
        have hnb4 : some b ≠ (Value.slice va n vc).ownBlock := map_not_own HM2.out HO2.out
        have hmap5 := (MapIs.kept (w := w2.drew) HM2.out hgr4 hnb4).kept hgr5 (fun e => HT.out.ges.2.2.1 (Option.some.inj e))
        have hb5 : Below w0.heap.size w0 w5 := Below.grown (Below.grown Hb2.out.drew hgr4 Hb2.out.size (fun k hk => (HO2.out.lt k hk).1)) hgr5 (Nat.le_trans Hb2.out.size hgr4.size) (fun k e => by cases e; exact HT.out.ges.2.1)
        have hrest5 : ∀ x ∈ KS, Blk w5 x.1 x.2 ∧ x.1 ≠ g ∧ x.1 ≠ b ∧ v'.ownBlock ≠ some x.1 := fun x hx => by
          have h1 := HT.out.rest x hx
          rw [Hnl.out] at h1
          have h2 := (Blk.grown (w := w2.drew) (HK2.out x hx) hgr4 (fun e => h1.2.2.2 e.symm)).grown hgr5 (fun e => h1.2.1 (Option.some.inj e))
          refine ⟨h2, h1.2.1, h1.2.2.1, ?_⟩
          rcases hat4 with h | ⟨gn, h, hge⟩
          · rw [h]; exact h1.2.2.2
          · rw [h]; intro e; cases e; have := (HK2.out x hx).lt; have h3 : w2.drew.heap.size = w2.heap.size := rfl; omega
        have HR5 := Lib.hid hrest5
        have HO5 := Lib.hid hown5; have HM5 := Lib.hid hmap5; have Hb5 := Lib.hid hb5; have Hng := Lib.hid hng
        have cq : w5.cell? ⟨g, 3, none⟩ = some (.int .i64 (Sc.count l true : Nat)) := hB5.cell (o := 3) rfl
        clear hrest5 hP hP3 hown4 hgr4 hat4 hB4 hgr5 hng hown5 hnb4 hmap5 hb5
        go_wp2_with (first
          | (refine wpList_store_blk1 rfl 3 _ _ rfl g 3 (.int .i64 ((Sc.count l true : Nat) + 1 : Int)) rfl rfl _ hB5 int_info ?_ rfl ?_; (· show 3 + 1 ≤ 4; decide); (intro w6 hB6 hgr6 hsz6)))
        go_ret2
        have hx : Sc.tyOf l ⟨F, true, li, co⟩ = ⟨F, true, Sc.count l true, li, co⟩ := rfl
        rw [hx]
        refine ⟨⟨v', b, ?_, ?_, ?_, ⟨HT.out.ges.1, HT.out.ges.2.1, HT.out.ges.2.2.1, Hng.out⟩, Below.grown Hb5.out hgr6 Hb5.out.size (fun k e => by cases e; exact HT.out.ges.2.1), fun x hx => ⟨(HR5.out x hx).1.grown hgr6 (fun e => (HR5.out x hx).2.1 (Option.some.inj e)), (HR5.out x hx).2⟩⟩, rfl⟩
        · have e : patch (tabC v' b l) 3 [.int .i64 ((Sc.count l true : Nat) + 1 : Int)] = tabC v' b (l ++ [⟨F, true, Sc.count l true, li, co⟩]) := by
            unfold tabC
            rw [count_snoc, count_snoc]
            rfl
          rw [← e]; exact hB6
        · have h1 := HO5.out.kept hgr6 (.inr Hng.out)
          rw [List.length_append, Hnl.out, List.flatMap_append]
          simpa using h1
        · have h1 := HM5.out.kept hgr6 (fun e => HT.out.ges.2.2.1 (Option.some.inj e))
          rw [names_snoc, List.length_append]
          exact h1

end Go.Proofs.YtiofhfcohhfihaaGreatDoor
