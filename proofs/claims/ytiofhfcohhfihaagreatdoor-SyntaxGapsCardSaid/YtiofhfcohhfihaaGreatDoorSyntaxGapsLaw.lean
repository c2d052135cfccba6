/- The law SyntaxGaps, walked: it returns true. -/
import Derived.Test.YtiofhfcohhfihaaGreatDoorSxAlive
import Derived.Test.YtiofhfcohhfihaaGreatDoorSxSameP
import Derived.Test.YtiofhfcohhfihaaGreatDoorSxFlat
import Derived.Test.YtiofhfcohhfihaaGreatDoorSxCnt
import Derived.Test.YtiofhfcohhfihaaGreatDoorSxTotal
import Derived.Test.YtiofhfcohhfihaaGreatDoorLxSplit2
import Derived.Deep.CutRange
namespace Go.Proofs.YtiofhfcohhfihaaGreatDoor
open Go.RowKit
set_option linter.unusedVariables false
set_option linter.unusedSimpArgs false

theorem fgA5_124 {P : Program} {md : Region.Mode} {ops : Array Oper} {Q : Exit → Act → World → Prop} {P0 P1 : World → Prop} {fin fuel : Nat} {b0 b1 b2 b3 b4 : Bool} {x0 x1 x2 x3 x4 x5 x6 x7 x8 x9 x10 x11 x12 x13 x14 x15 x16 x17 x18 x19 x20 x21 x22 x23 x24 x25 x26 x27 x28 x29 x30 x31 x32 x33 x34 x35 x36 x37 x38 x39 x40 x41 x42 x43 x44 x45 x46 x47 x48 x49 x50 x51 x52 x53 x54 x55 x56 x57 x58 x59 x60 x61 x62 x63 x64 x65 x66 x67 x68 x69 x70 x71 x72 x73 x74 x75 x76 x77 x78 x79 x80 x81 x82 x83 x84 x85 x86 x87 x88 x89 x90 x91 x92 x93 x94 x95 x96 x97 x98 x99 x100 x101 x102 x103 x104 x105 x106 x107 x108 x109 x110 x111 x112 x113 x114 x115 x116 x117 x118 x119 x120 x121 x122 x123 : Value} {d} {w : World} (h : wpAnyG P md ops Q P0 P1 fin fuel #[b0, b1, b2, b3, b4] ⟨#[x0, x1, x2, x3, x4, x5, x6, x7, x8, x9, x10, x11, x12, x13, x14, x15, x16, x17, x18, x19, x20, x21, x22, x23, x24, x25, x26, x27, x28, x29, x30, x31, x32, x33, x34, x35, x36, x37, x38, x39, x40, x41, x42, x43, x44, x45, x46, x47, x48, x49, x50, x51, x52, x53, x54, x55, x56, x57, x58, x59, x60, x61, x62, x63, x64, x65, x66, x67, x68, x69, x70, x71, x72, x73, x74, x75, x76, x77, x78, x79, x80, x81, x82, x83, x84, x85, x86, x87, x88, x89, x90, x91, x92, x93, x94, x95, x96, x97, x98, x99, x100, x101, x102, x103, x104, x105, x106, x107, x108, x109, x110, x111, x112, x113, x114, x115, x116, x117, x118, x119, x120, x121, x122, x123], d⟩ w) : wpAnyG P md ops Q P0 P1 fin fuel #[b0, b1, b2, b3, b4] ⟨#[x0, x1, x2, x3, x4, x5, x6, x7, x8, x9, x10, x11, x12, x13, x14, x15, x16, x17, x18, x19, x20, x21, x22, x23, x24, x25, x26, x27, x28, x29, x30, x31, x32, x33, x34, x35, x36, x37, x38, x39, x40, x41, x42, x43, x44, x45, x46, x47, x48, x49, x50, x51, x52, x53, x54, x55, x56, x57, x58, x59, x60, x61, x62, x63, x64, x65, x66, x67, x68, x69, x70, x71, x72, x73, x74, x75, x76, x77, x78, x79, x80, x81, x82, x83, x84, x85, x86, x87, x88, x89, x90, x91, x92, x93, x94, x95, x96, x97, x98, x99, x100, x101, x102, x103, x104, x105, x106, x107, x108, x109, x110, x111, x112, x113, x114, x115, x116, x117, x118, x119, x120, x121, x122, x123], d⟩ w := h
theorem fgA10_124 {P : Program} {md : Region.Mode} {ops : Array Oper} {Q : Exit → Act → World → Prop} {P0 P1 : World → Prop} {fin fuel : Nat} {b0 b1 b2 b3 b4 b5 b6 b7 b8 b9 : Bool} {x0 x1 x2 x3 x4 x5 x6 x7 x8 x9 x10 x11 x12 x13 x14 x15 x16 x17 x18 x19 x20 x21 x22 x23 x24 x25 x26 x27 x28 x29 x30 x31 x32 x33 x34 x35 x36 x37 x38 x39 x40 x41 x42 x43 x44 x45 x46 x47 x48 x49 x50 x51 x52 x53 x54 x55 x56 x57 x58 x59 x60 x61 x62 x63 x64 x65 x66 x67 x68 x69 x70 x71 x72 x73 x74 x75 x76 x77 x78 x79 x80 x81 x82 x83 x84 x85 x86 x87 x88 x89 x90 x91 x92 x93 x94 x95 x96 x97 x98 x99 x100 x101 x102 x103 x104 x105 x106 x107 x108 x109 x110 x111 x112 x113 x114 x115 x116 x117 x118 x119 x120 x121 x122 x123 : Value} {d} {w : World} (h : wpAnyG P md ops Q P0 P1 fin fuel #[b0, b1, b2, b3, b4, b5, b6, b7, b8, b9] ⟨#[x0, x1, x2, x3, x4, x5, x6, x7, x8, x9, x10, x11, x12, x13, x14, x15, x16, x17, x18, x19, x20, x21, x22, x23, x24, x25, x26, x27, x28, x29, x30, x31, x32, x33, x34, x35, x36, x37, x38, x39, x40, x41, x42, x43, x44, x45, x46, x47, x48, x49, x50, x51, x52, x53, x54, x55, x56, x57, x58, x59, x60, x61, x62, x63, x64, x65, x66, x67, x68, x69, x70, x71, x72, x73, x74, x75, x76, x77, x78, x79, x80, x81, x82, x83, x84, x85, x86, x87, x88, x89, x90, x91, x92, x93, x94, x95, x96, x97, x98, x99, x100, x101, x102, x103, x104, x105, x106, x107, x108, x109, x110, x111, x112, x113, x114, x115, x116, x117, x118, x119, x120, x121, x122, x123], d⟩ w) : wpAnyG P md ops Q P0 P1 fin fuel #[b0, b1, b2, b3, b4, b5, b6, b7, b8, b9] ⟨#[x0, x1, x2, x3, x4, x5, x6, x7, x8, x9, x10, x11, x12, x13, x14, x15, x16, x17, x18, x19, x20, x21, x22, x23, x24, x25, x26, x27, x28, x29, x30, x31, x32, x33, x34, x35, x36, x37, x38, x39, x40, x41, x42, x43, x44, x45, x46, x47, x48, x49, x50, x51, x52, x53, x54, x55, x56, x57, x58, x59, x60, x61, x62, x63, x64, x65, x66, x67, x68, x69, x70, x71, x72, x73, x74, x75, x76, x77, x78, x79, x80, x81, x82, x83, x84, x85, x86, x87, x88, x89, x90, x91, x92, x93, x94, x95, x96, x97, x98, x99, x100, x101, x102, x103, x104, x105, x106, x107, x108, x109, x110, x111, x112, x113, x114, x115, x116, x117, x118, x119, x120, x121, x122, x123], d⟩ w := h
theorem fgA16_124 {P : Program} {md : Region.Mode} {ops : Array Oper} {Q : Exit → Act → World → Prop} {P0 P1 : World → Prop} {fin fuel : Nat} {b0 b1 b2 b3 b4 b5 b6 b7 b8 b9 b10 b11 b12 b13 b14 b15 : Bool} {x0 x1 x2 x3 x4 x5 x6 x7 x8 x9 x10 x11 x12 x13 x14 x15 x16 x17 x18 x19 x20 x21 x22 x23 x24 x25 x26 x27 x28 x29 x30 x31 x32 x33 x34 x35 x36 x37 x38 x39 x40 x41 x42 x43 x44 x45 x46 x47 x48 x49 x50 x51 x52 x53 x54 x55 x56 x57 x58 x59 x60 x61 x62 x63 x64 x65 x66 x67 x68 x69 x70 x71 x72 x73 x74 x75 x76 x77 x78 x79 x80 x81 x82 x83 x84 x85 x86 x87 x88 x89 x90 x91 x92 x93 x94 x95 x96 x97 x98 x99 x100 x101 x102 x103 x104 x105 x106 x107 x108 x109 x110 x111 x112 x113 x114 x115 x116 x117 x118 x119 x120 x121 x122 x123 : Value} {d} {w : World} (h : wpAnyG P md ops Q P0 P1 fin fuel #[b0, b1, b2, b3, b4, b5, b6, b7, b8, b9, b10, b11, b12, b13, b14, b15] ⟨#[x0, x1, x2, x3, x4, x5, x6, x7, x8, x9, x10, x11, x12, x13, x14, x15, x16, x17, x18, x19, x20, x21, x22, x23, x24, x25, x26, x27, x28, x29, x30, x31, x32, x33, x34, x35, x36, x37, x38, x39, x40, x41, x42, x43, x44, x45, x46, x47, x48, x49, x50, x51, x52, x53, x54, x55, x56, x57, x58, x59, x60, x61, x62, x63, x64, x65, x66, x67, x68, x69, x70, x71, x72, x73, x74, x75, x76, x77, x78, x79, x80, x81, x82, x83, x84, x85, x86, x87, x88, x89, x90, x91, x92, x93, x94, x95, x96, x97, x98, x99, x100, x101, x102, x103, x104, x105, x106, x107, x108, x109, x110, x111, x112, x113, x114, x115, x116, x117, x118, x119, x120, x121, x122, x123], d⟩ w) : wpAnyG P md ops Q P0 P1 fin fuel #[b0, b1, b2, b3, b4, b5, b6, b7, b8, b9, b10, b11, b12, b13, b14, b15] ⟨#[x0, x1, x2, x3, x4, x5, x6, x7, x8, x9, x10, x11, x12, x13, x14, x15, x16, x17, x18, x19, x20, x21, x22, x23, x24, x25, x26, x27, x28, x29, x30, x31, x32, x33, x34, x35, x36, x37, x38, x39, x40, x41, x42, x43, x44, x45, x46, x47, x48, x49, x50, x51, x52, x53, x54, x55, x56, x57, x58, x59, x60, x61, x62, x63, x64, x65, x66, x67, x68, x69, x70, x71, x72, x73, x74, x75, x76, x77, x78, x79, x80, x81, x82, x83, x84, x85, x86, x87, x88, x89, x90, x91, x92, x93, x94, x95, x96, x97, x98, x99, x100, x101, x102, x103, x104, x105, x106, x107, x108, x109, x110, x111, x112, x113, x114, x115, x116, x117, x118, x119, x120, x121, x122, x123], d⟩ w := h
theorem fgA20_124 {P : Program} {md : Region.Mode} {ops : Array Oper} {Q : Exit → Act → World → Prop} {P0 P1 : World → Prop} {fin fuel : Nat} {b0 b1 b2 b3 b4 b5 b6 b7 b8 b9 b10 b11 b12 b13 b14 b15 b16 b17 b18 b19 : Bool} {x0 x1 x2 x3 x4 x5 x6 x7 x8 x9 x10 x11 x12 x13 x14 x15 x16 x17 x18 x19 x20 x21 x22 x23 x24 x25 x26 x27 x28 x29 x30 x31 x32 x33 x34 x35 x36 x37 x38 x39 x40 x41 x42 x43 x44 x45 x46 x47 x48 x49 x50 x51 x52 x53 x54 x55 x56 x57 x58 x59 x60 x61 x62 x63 x64 x65 x66 x67 x68 x69 x70 x71 x72 x73 x74 x75 x76 x77 x78 x79 x80 x81 x82 x83 x84 x85 x86 x87 x88 x89 x90 x91 x92 x93 x94 x95 x96 x97 x98 x99 x100 x101 x102 x103 x104 x105 x106 x107 x108 x109 x110 x111 x112 x113 x114 x115 x116 x117 x118 x119 x120 x121 x122 x123 : Value} {d} {w : World} (h : wpAnyG P md ops Q P0 P1 fin fuel #[b0, b1, b2, b3, b4, b5, b6, b7, b8, b9, b10, b11, b12, b13, b14, b15, b16, b17, b18, b19] ⟨#[x0, x1, x2, x3, x4, x5, x6, x7, x8, x9, x10, x11, x12, x13, x14, x15, x16, x17, x18, x19, x20, x21, x22, x23, x24, x25, x26, x27, x28, x29, x30, x31, x32, x33, x34, x35, x36, x37, x38, x39, x40, x41, x42, x43, x44, x45, x46, x47, x48, x49, x50, x51, x52, x53, x54, x55, x56, x57, x58, x59, x60, x61, x62, x63, x64, x65, x66, x67, x68, x69, x70, x71, x72, x73, x74, x75, x76, x77, x78, x79, x80, x81, x82, x83, x84, x85, x86, x87, x88, x89, x90, x91, x92, x93, x94, x95, x96, x97, x98, x99, x100, x101, x102, x103, x104, x105, x106, x107, x108, x109, x110, x111, x112, x113, x114, x115, x116, x117, x118, x119, x120, x121, x122, x123], d⟩ w) : wpAnyG P md ops Q P0 P1 fin fuel #[b0, b1, b2, b3, b4, b5, b6, b7, b8, b9, b10, b11, b12, b13, b14, b15, b16, b17, b18, b19] ⟨#[x0, x1, x2, x3, x4, x5, x6, x7, x8, x9, x10, x11, x12, x13, x14, x15, x16, x17, x18, x19, x20, x21, x22, x23, x24, x25, x26, x27, x28, x29, x30, x31, x32, x33, x34, x35, x36, x37, x38, x39, x40, x41, x42, x43, x44, x45, x46, x47, x48, x49, x50, x51, x52, x53, x54, x55, x56, x57, x58, x59, x60, x61, x62, x63, x64, x65, x66, x67, x68, x69, x70, x71, x72, x73, x74, x75, x76, x77, x78, x79, x80, x81, x82, x83, x84, x85, x86, x87, x88, x89, x90, x91, x92, x93, x94, x95, x96, x97, x98, x99, x100, x101, x102, x103, x104, x105, x106, x107, x108, x109, x110, x111, x112, x113, x114, x115, x116, x117, x118, x119, x120, x121, x122, x123], d⟩ w := h

def mvT (t : Lx.Tok) : Lx.Tok := ⟨t.kind, t.text, t.num, 3, 4⟩
theorem mv_set (ts : List Lx.Tok) {k : Nat} (h : k < ts.length) : (((((ts.take k).map mvT ++ ts.drop k).flatMap tC).set (k * 5 + 3) (.int .i64 3)).set (k * 5 + 4) (.int .i64 4)) = ((ts.take (k + 1)).map mvT ++ ts.drop (k + 1)).flatMap tC := by
  have hA : (((ts.take k).map mvT).flatMap tC).length = k * 5 := by
    rw [flat_len tC_len, List.length_map, List.length_take, Nat.min_eq_left (Nat.le_of_lt h)]
  rw [List.drop_eq_getElem_cons h, List.take_succ_eq_append_getElem h, List.map_append, List.map_cons, List.map_nil]
  generalize ts[k] = t
  generalize ts.drop (k + 1) = r
  simp only [List.flatMap_append, List.flatMap_cons, List.flatMap_nil, List.append_nil, List.append_assoc]
  generalize (List.map mvT (ts.take k)).flatMap tC = P at *
  rw [List.set_append_right _ _ (by omega), List.set_append_right _ _ (by omega), hA, show k * 5 + 3 - k * 5 = 3 by omega, show k * 5 + 4 - k * 5 = 4 by omega]
  rfl
theorem own_addr {w : World} {B : Nat} {e : TypeId} {size n c : Nat} {a : Option Addr} {xs : List Value} (h : w.ownsRow B e size (.slice a n c) n xs) (hn : 0 < n) : ∃ g, a = some ⟨g, 0, none⟩ := by
  rcases h.2 with ⟨h', hz⟩ | ⟨g', cap', cur, h', _⟩
  · omega
  · cases h'; exact ⟨g', rfl⟩
theorem sizeTokE (w : World) : (Go.sizeOf (Tryz.prog.elem 23)).run Tryz.prog w = .ok 5 w := by kernel_rfl
theorem mv_small {ts : List Lx.Tok} (h : Small ts) : Small (ts.map mvT) :=
  ⟨by rw [List.length_map]; exact h.few, fun t ht => by obtain ⟨u, hu, rfl⟩ := List.mem_map.1 ht; exact h.short u hu, fun t ht => by obtain ⟨u, hu, rfl⟩ := List.mem_map.1 ht; exact h.nums u hu⟩
theorem parse_some {ts : List Lx.Tok} {x : Nat × Nat × Nat} (h : (Sx.parse ts).2 = some x) : (Sx.parse ts).1 = ⟨[], [], []⟩ := by
  unfold Sx.parse at h ⊢
  dsimp only at h ⊢
  split at h
  · rename_i h1; rw [if_pos h1]
  · cases h
theorem zFilR (h : Frag) : FilR h ⟨[], [], []⟩ zFl := ⟨_, _, [], [], rfl, ⟨FlatD.nil _ _, FlatD.nil _ _⟩, by rw [MsgsR], by rw [EnsR]⟩
/-- a file, and whether there is an error -/
def FilePost (w : World) (f : Sx.Fil) (b : Bool) (e : Ending) (w' : World) : Prop :=
  ∃ cs ev, e = .returned (.tuple #[.agg cs.toArray, ev]) ∧ FilR (fragU w' w.heap.size []) f cs ∧ Below w.heap.size w w' ∧ ((ev = .nilIface ∧ b = false) ∨ (∃ g, ev = .iface 80 (.pointer (some ⟨g, 0, none⟩)) ∧ b = true))
theorem file_of_parse {A : Nat → Addr} {w : World} {r : Sx.Fil × Option (Nat × Nat × Nat)} {e : Ending} {w' : World} (h : ParsePost A w r e w') (hz : ∀ x, r.2 = some x → r.1 = ⟨[], [], []⟩) : FilePost w r.1 r.2.isSome e w' := by
  obtain ⟨f, er⟩ := r
  obtain ⟨hb, h⟩ := h
  cases er with
  | none =>
    obtain ⟨cs, rfl, hf⟩ := h
    exact ⟨cs, .nilIface, rfl, hf, hb, .inl ⟨rfl, rfl⟩⟩
  | some x =>
    obtain ⟨g, rfl, _⟩ := h
    have hf : f = ⟨[], [], []⟩ := hz x rfl
    subst hf
    exact ⟨zFl, _, rfl, zFilR _, hb, .inr ⟨g, rfl, rfl⟩⟩

structure Wd0 (w9 : World) (gF gG : Nat) (cs ds : List Value) (v : World) : Prop where
  W : Below w9.heap.size w9 v
  B : Blk v gF cs ∧ Blk v gG ds
theorem Wd0.call {w9 : World} {gF gG : Nat} {cs ds : List Value} {v v' : World} (h : Wd0 w9 gF gG cs ds v) (hb : Below v.heap.size v v') : Wd0 w9 gF gG cs ds v' := ⟨h.W.trans (hb.mono h.W.size), h.B.1.below hb h.B.1.lt, h.B.2.below hb h.B.2.lt⟩
theorem he_next {E : List (Option Nat)} {v v' : World} (h : ∀ k, some k ∈ E → k < v.heap.size) (hb : Below v.heap.size v v') : ∀ k, some k ∈ E → k < v'.heap.size := fun k hk => Nat.lt_of_lt_of_le (h k hk) hb.size
theorem he_new {E : List (Option Nat)} {v v' : World} {g : Nat} {cs : List Value} (h : ∀ k, some k ∈ E → k < v.heap.size) (hA : Blk v' g cs) (hb : Below v.heap.size v v') : ∀ k, some k ∈ some g :: E → k < v'.heap.size := fun k hk => by
  rcases List.mem_cons.1 hk with h2 | h2
  · cases h2; exact hA.lt
  · exact Nat.lt_of_lt_of_le (h k h2) hb.size
theorem fil_next {E : List (Option Nat)} {v v' : World} {f : Sx.Fil} {c : List Value} (h : FilR (fragE v E) f c) (hb : Below v.heap.size v v') : FilR (fragE v' E) f c := h.mono (belowE hb (fun _ h => .inl h))
theorem fil_new {E : List (Option Nat)} {v v' : World} {f : Sx.Fil} {c : List Value} {g : Nat} (h : FilR (fragE v E) f c) (hb : Below v.heap.size v v') (hg : v.heap.size ≤ g) : FilR (fragE v' (some g :: E)) f c := h.mono (belowE hb (fun k hk => by
  rcases List.mem_cons.1 hk with h2 | h2
  · right; cases h2; exact hg
  · exact .inl h2))
/-- where both copies lie ready: the files' blocks, the readings, the two new blocks; then one stored, then both -/
structure Leaf0 (w9 : World) (gF gG : Nat) (cs ds : List Value) (f1 f2 : Sx.Fil) (g6 g7 : Nat) (E : List (Option Nat)) (c2 c5 : List Value) (v : World) : Prop where
  W : Below w9.heap.size w9 v
  B : Blk v gF cs ∧ Blk v gG ds
  r2 : FilR (fragE v E) (Sx.zL f1) c2
  r5 : FilR (fragE v E) (Sx.zL f2) c5
  ge : w9.heap.size ≤ g6 ∧ w9.heap.size ≤ g7
  ne : g6 ≠ g7
  lt : gF < w9.heap.size ∧ gG < w9.heap.size
  mem : some g6 ∈ E ∧ some g7 ∈ E
theorem Leaf0.store {w9 : World} {gF gG : Nat} {cs ds : List Value} {f1 f2 : Sx.Fil} {g6 g7 : Nat} {E : List (Option Nat)} {c2 c5 : List Value} {v v' : World} (h : Leaf0 w9 gF gG cs ds f1 f2 g6 g7 E c2 c5 v) {g : Nat} (hg : g = g6 ∨ g = g7) (hgr : v.grownBy v' (some g)) : Leaf0 w9 gF gG cs ds f1 f2 g6 g7 E c2 c5 v' := by
  have hge : w9.heap.size ≤ g := by rcases hg with rfl | rfl; exact h.ge.1; exact h.ge.2
  have hm : some g ∈ E := by rcases hg with rfl | rfl; exact h.mem.1; exact h.mem.2
  exact ⟨Below.grown h.W hgr h.W.size (fun _ e => by cases e; exact hge), ⟨h.B.1.grown hgr (fun e => by have h1 := h.lt.1; cases e; omega), h.B.2.grown hgr (fun e => by have h1 := h.lt.2; cases e; omega)⟩,
    h.r2.mono (grownE hgr (.inr hm) (fun _ h => .inl h)), h.r5.mono (grownE hgr (.inr hm) (fun _ h => .inl h)), h.ge, h.ne, h.lt, h.mem⟩
structure Leaf (w9 : World) (gF gG : Nat) (cs ds : List Value) (f1 f2 : Sx.Fil) (g6 g7 : Nat) (E : List (Option Nat)) (c2 c5 : List Value) (v : World) : Prop extends Leaf0 w9 gF gG cs ds f1 f2 g6 g7 E c2 c5 v where
  A : Blk v g6 zFl ∧ Blk v g7 zFl
structure Leaf1 (w9 : World) (gF gG : Nat) (cs ds : List Value) (f1 f2 : Sx.Fil) (g6 g7 : Nat) (E : List (Option Nat)) (c2 c5 : List Value) (v : World) : Prop extends Leaf0 w9 gF gG cs ds f1 f2 g6 g7 E c2 c5 v where
  A7 : Blk v g7 zFl
  S6 : Blk v g6 c2
structure Leaf2 (w9 : World) (gF gG : Nat) (cs ds : List Value) (f1 f2 : Sx.Fil) (g6 g7 : Nat) (E : List (Option Nat)) (c2 c5 : List Value) (v : World) : Prop extends Leaf0 w9 gF gG cs ds f1 f2 g6 g7 E c2 c5 v where
  S : Blk v g6 c2 ∧ Blk v g7 c5
theorem Leaf.store {w9 : World} {gF gG : Nat} {cs ds : List Value} {f1 f2 : Sx.Fil} {g6 g7 : Nat} {E : List (Option Nat)} {c2 c5 : List Value} {v v' : World} (h : Leaf w9 gF gG cs ds f1 f2 g6 g7 E c2 c5 v) (hS : Blk v' g6 c2) (hgr : v.grownBy v' (some g6)) : Leaf1 w9 gF gG cs ds f1 f2 g6 g7 E c2 c5 v' :=
  ⟨h.toLeaf0.store (.inl rfl) hgr, h.A.2.grown hgr (fun e => h.ne (Option.some.inj e).symm), hS⟩
theorem Leaf1.store {w9 : World} {gF gG : Nat} {cs ds : List Value} {f1 f2 : Sx.Fil} {g6 g7 : Nat} {E : List (Option Nat)} {c2 c5 : List Value} {v v' : World} (h : Leaf1 w9 gF gG cs ds f1 f2 g6 g7 E c2 c5 v) (hS : Blk v' g7 c5) (hgr : v.grownBy v' (some g7)) : Leaf2 w9 gF gG cs ds f1 f2 g6 g7 E c2 c5 v' :=
  ⟨h.toLeaf0.store (.inr rfl) hgr, ⟨h.S6.grown hgr (fun e => h.ne (Option.some.inj e)), hS⟩⟩
theorem Leaf2.R {w9 : World} {gF gG : Nat} {cs ds : List Value} {f1 f2 : Sx.Fil} {g6 g7 : Nat} {E : List (Option Nat)} {c2 c5 : List Value} {v : World} (h : Leaf2 w9 gF gG cs ds f1 f2 g6 g7 E c2 c5 v) : FilR (frag v) (Sx.zL f1) c2 ∧ FilR (frag v) (Sx.zL f2) c5 := ⟨h.r2.mono (fragE_le _ _), h.r5.mono (fragE_le _ _)⟩

/-- what the document's Same says (XSxSameR3) -/
def SameSaid : Prop := ∀ (a b : Sx.Fil) (ca cb : List Value) (w : World), FilR (frag w) a ca → FilR (frag w) b cb →
    Calls Tryz.prog 16 #[.agg ca.toArray, .agg cb.toArray] w fun e w' => e = .returned (.bool (Sx.sameL a b)) ∧ Below w.heap.size w w'

theorem wp_alloc_any {P : Program} {op : Oper} {a : Act} {w : World} {K : Act → World → Prop} {Q : Exit → Act → World → Prop} (ty : TypeId) (ho : op.op = .alloc ty) (zs : List Value) (hz : (P.info? ty).map (·.zero) = some (some (.agg zs.toArray)))
    (h : ∀ w2 g, w.heap.size ≤ g → Blk w2 g zs → Below w.heap.size w w2 → K (a.put op.dst (.pointer (some ⟨g, 0, none⟩))) w2) : op.wp P a w K Q := by
  unfold Oper.wp execOp
  cases hq : P.info? ty with
  | none => simp [hq] at hz
  | some i =>
    have hs : i.zero = some (.agg zs.toArray) := by simpa [hq] using hz
    simp only [ho, Instr.alloc, zeroValue, typeInfo, hq, hs, newVar, newRow, Value.cells, Sem.run_bind, Sem.run_pure, run_newObj, Result.andThen_ok]
    simp [hq, hs, newVar, newRow, Value.cells]
    exact h _ _ (Nat.le_refl _) (Blk.new w ty zs) ((Below.refl _ _).alloc (Nat.le_refl _) _)
theorem wp_store_any {P : Program} {op : Oper} {a : Act} {w : World} {K : Act → World → Prop} {Q : Exit → Act → World → Prop} (ty : TypeId) (x y : Operand) (ho : op.op = .store ty x y)
    (g : Nat) (vs : List Value) (hx : a.eval x = .pointer (some ⟨g, 0, none⟩)) (hy : a.eval y = .agg vs.toArray) (cs : List Value) (hb : Blk w g cs)
    (hi : (P.info? ty).map (·.size) = some vs.length) (hle : vs.length = cs.length) (h1 : ∀ u ∈ vs, u.oneCell' = true)
    (h : ∀ w2, Blk w2 g vs → w.grownBy w2 (some g) → K (a.put op.dst undef) w2) : op.wp P a w K Q :=
  wp_store_blk ty x y ho g 0 (.agg vs.toArray) vs cs hx hy rfl hb hi (by omega) h1 (h _ (by
    have e : patch cs 0 vs = vs := by unfold patch; simp; omega
    have := hb.set (patch cs 0 vs)
    rw [e] at this ⊢; exact this) (setRow_grown _))
theorem filR_form {h : Frag} {f : Sx.Fil} {cs : List Value} (q : FilR h f cs) : cs.length = 3 ∧ ∀ u ∈ cs, u.oneCell' = true := by
  obtain ⟨v1, v2, mss, ess, rfl, ⟨q1, q2⟩, _⟩ := q
  refine ⟨rfl, ?_⟩
  intro u hu; simp only [List.mem_cons, List.not_mem_nil, or_false] at hu
  rcases hu with rfl | rfl | rfl
  · rfl
  · exact flatC_one q1
  · exact flatC_one q2
theorem fragJ_E {w w' : World} {E : List (Option Nat)} (hb : Below w.heap.size w w') (hE : ∀ k, some k ∈ E → k < w.heap.size) : FLe (fragJ (fragE w E) w' w.heap.size []) (fragE w' E) := fun k o e => by
  unfold fragJ at e
  split at e
  · rename_i hk
    rw [fragE_nil] at e
    unfold fragE
    rw [if_neg (fun e2 => by have := hE k e2; omega)]
    exact e
  · exact belowE hb (fun _ h => .inl h) k o e
theorem pair_lt {A B : Nat} {w : World} (h : A < w.heap.size) (h2 : B < w.heap.size) : ∀ k, some k ∈ [some A, some B] → k < w.heap.size := fun k hk => by
  simp only [List.mem_cons, Option.some.injEq, List.not_mem_nil, or_false] at hk
  rcases hk with rfl | rfl
  · exact h
  · exact h2
theorem range_lt {w : World} {b o : Nat} {cs : List Value} (h : w.rangeAt b o cs) (h2 : 0 < cs.length) : b < w.heap.size := by
  have := h 0 _ (List.getElem?_eq_getElem h2)
  exact World.block_lt_of_cell? w ⟨b, o + 0, none⟩ this
theorem AllReadyG.want {P : Program} {md : Region.Mode} {ops : Array Oper} {Q : Exit → Act → World → Prop} {P0 P1 : World → Prop} {fin : Nat} {fuel : Nat} {listed : Array Bool} {a : Act} {w : World} {i : Nat} {o : Oper} {rs : List Nat} (ho : ops[i]? = some o) (hw : Region.wanted o (yielded ops a.tmps) = true)
    (h : ∀ K' : Act → World → Prop, Shut (∀ a w, InvG P0 P1 fin (listed.setIfInBounds i true) w → (InvG P0 P1 fin (listed.setIfInBounds i true) w → wpAnyG P md ops Q P0 P1 fin fuel (listed.setIfInBounds i true) a w) → K' a w) → Oper.wp P o a w K' Q)
    (hs : AllReadyG P md ops Q P0 P1 fin fuel listed a w rs) : AllReadyG P md ops Q P0 P1 fin fuel listed a w (i :: rs) :=
  AllReadyG.cons ho (fun K' hK => by
    rw [if_pos hw]
    exact h K' hK) hs

set_option maxHeartbeats 64000000 in
set_option maxRecDepth 100000 in
theorem syntaxGaps_main (HS0 : SameSaid) (A : Nat → Addr) (s : ByteArray) (w : World) (hV : VarsD A w) (hm : s.size ≤ maxLen) :
    Calls Tryz.prog 3 #[.string s] w fun e w' => e = .returned (.bool true) ∧ Below w.heap.size w w' := by
  have HSm := Lib.hid HS0
  clear HS0
  have HA := Lib.hid (alive08 A w hV)
  have HV := Lib.hid hV
  unfold maxLen at hm
  by_cases hbig : 1500 < s.size
  · have hbI : (1500 : Int) < (s.size : Int) := by omega
    clear hbig hV
    go_enter Tryz.func3, Tryz.ntmps3
    go_wp2_with fail
    refine HA.out.mono ?_
    rintro e w1 ⟨rfl, hb1⟩
    go_wp2_with fail
    go_ret
    exact ⟨rfl, hb1⟩
  · have hbI : (s.size : Int) ≤ 1500 := by omega
    have hbig4 : ¬ 4000 < s.size := by omega
    obtain ⟨X, hX⟩ : ∃ X, X = Lx.splitN s.data.toList (1, 1) := ⟨_, rfl⟩
    have HSp := Lib.hid (fun w0 (v0 : Vars A w0) => split_own A s w0 v0 hbig4)
    have hX2 : Lx.split s.data.toList = X := by unfold Lx.split; rw [len_data, if_neg hbig4, hX]
    have HOf := Lib.hid (fun w0 (v0 : VarsD A w0) => text_of_any A s w0 v0 (by unfold maxLen; omega))
    have HFew := Lib.hid (fun ts (h : X = .ok ts) => split_few (s := s) (hX2.trans h))
    rw [hX2] at HOf
    rw [← hX] at HSp
    clear hbig hbig4 hV hX hX2
    go_enter Tryz.func3, Tryz.ntmps3
    go_wp2_with fail
    refine HA.out.mono ?_
    rintro e w1 ⟨rfl, hb1⟩
    have HV1 := Lib.hid (HV.out.keep hb1)
    have Hb1 := Lib.hid hb1
    have HS1 := Lib.hid (HSp.out w1 HV1.out.vars)
    clear hb1 HA HSp
    cases X with
    | bad n q =>
      unfold SplitOwn at HS1
      simp only at HS1
      go_wp2_with fail
      refine HS1.out.mono ?_
      rintro e w2 ⟨g, rfl, _, _, hb2⟩
      have HO2 := Lib.hid (HOf.out w2 (HV1.out.keep hb2))
      have Hb2 : Hid (Below w.heap.size w w2) := Lib.hid (Hb1.out.trans (hb2.mono Hb1.out.size))
      unfold ParsePost at HO2
      simp only [fileOf] at HO2
      clear hb2 HOf
      go_wp2_with fail
      refine HO2.out.mono ?_
      rintro e w3 ⟨hb3, g3, rfl, _⟩
      have Hb3 : Hid (Below w.heap.size w w3) := Lib.hid (Hb2.out.trans (hb3.mono Hb2.out.size))
      clear hb3
      go_upto_region 7 with (first
        | (refine wpList_alloc_lay rfl 31 rfl zFl zeroFl ?_; (intro w4 g4 hg4 hB4 hb4))
        | (refine wpList_store_all rfl 31 _ _ rfl g4 zFl rfl rfl zFl hB4 infoFl rfl (by decide) ?_; (intro w5 hB5 hgr5; have hb5 := Below.grown hb4 hgr5 hb4.size (fun _ e => by cases e; exact hg4); clear hb4 hgr5 hB4)))
      have x1 : w5.cell? ⟨g4, 1, none⟩ = some (.slice none 0 0) := hB5.cell (o := 1) rfl
      have x2 : w5.cell? ⟨g4, 2, none⟩ = some (.slice none 0 0) := hB5.cell (o := 2) rfl
      have Hb5 : Hid (Below w.heap.size w w5) := Lib.hid (Hb3.out.trans (hb5.mono Hb3.out.size))
      clear hb5 hB5 hg4
      go_wp2_with fail
      go_ret
      exact ⟨rfl, Hb5.out⟩
    | ok ts =>
      have Hsm := Lib.hid (HFew.out ts rfl)
      unfold SplitOwn at HS1
      simp only at HS1
      clear HFew
      go_wp2_with fail
      refine HS1.out.mono ?_
      rintro e w2 ⟨v, rfl, hown, hb2⟩
      have HV2 := Lib.hid (HV1.out.keep hb2)
      have HO2 := Lib.hid (HOf.out w2 HV2.out)
      have Hb2 : Hid (Below w.heap.size w w2) := Lib.hid (Hb1.out.trans (hb2.mono Hb1.out.size))
      have Hsz12 : Hid (w1.heap.size ≤ w2.heap.size) := Lib.hid hb2.size
      have Hown := Lib.hid hown
      have hfile : fileOf (.ok ts) = Sx.parse ts := rfl
      rw [hfile] at HO2
      obtain ⟨va, vc, rfl, _⟩ := own_slice hown
      clear hb2 HOf hown hfile HS1
      have HF2 : Hid (Calls Tryz.prog 10 #[.string s] w2 (FilePost w2 (Sx.parse ts).1 (Sx.parse ts).2.isSome)) := Lib.hid (HO2.out.mono (fun e w' h => file_of_parse h (fun x hx => parse_some hx)))
      clear HO2
      go_wp2_with fail
      refine HF2.out.mono ?_
      rintro e w3 ⟨cs, ev, rfl, hf, hb3, hev⟩
      have Hcs : Hid (cs.length = 3 ∧ ∀ u ∈ cs, u.oneCell' = true) := Lib.hid (by
        obtain ⟨v1, v2, mss, ess, rfl, ⟨q1, q2⟩, _⟩ := hf
        refine ⟨rfl, ?_⟩
        intro u hu; simp only [List.mem_cons, List.not_mem_nil, or_false] at hu
        rcases hu with rfl | rfl | rfl
        · rfl
        · exact flatC_one q1
        · exact flatC_one q2)
      have Hf := Lib.hid hf; have Hev := Lib.hid hev; have Hb3 := Lib.hid hb3
      clear hf hev hb3 HF2
      obtain ⟨n, hn⟩ : ∃ z, z = ts.length := ⟨_, rfl⟩
      rw [← hn] at Hown ⊢
      have Hn := Lib.hid hn.symm
      have hn9 : n ≤ 9223372036854775807 := by have := Hsm.out.few; omega
      clear hn
      go_upto_region 7 with (first
        | (refine wpList_alloc_lay rfl 31 rfl zFl zeroFl ?_; (intro w4 gF hgF hB4 hb4))
        | (refine wpList_store_all rfl 31 _ _ rfl gF cs rfl rfl zFl hB4 ?_ ?_ ?_ ?_; (· rw [Hcs.out.1]; exact infoFl); (· exact Hcs.out.1); (· exact Hcs.out.2); (intro w5 hB5 hgr5; have hb5 := Below.grown hb4 hgr5 hb4.size (fun _ e => by cases e; exact hgF); clear hb4 hgr5 hB4)))
      have Hf5 : Hid (FilR (fragU w5 w2.heap.size []) (Sx.parse ts).1 cs) := Lib.hid (Hf.out.mono (fragU_grown (grown_of_below hb5 none) (fun k e => by cases e) (fun k hk => .inl hk)))
      have Hown5 := Lib.hid ((Hown.out.kept (grown_of_below Hb3.out none) (by rcases Hown.out.2 with ⟨h, _⟩ | ⟨g, _, _, h, _⟩; exact .inl (by rw [h]; rfl); exact .inr (by rw [h]; simp [Value.ownBlock]))).kept (grown_of_below hb5 none) (by rcases Hown.out.2 with ⟨h, _⟩ | ⟨g, _, _, h, _⟩; exact .inl (by rw [h]; rfl); exact .inr (by rw [h]; simp [Value.ownBlock])))
      have HBF := Lib.hid hB5
      have Hlt : Hid (∀ g, va = some ⟨g, 0, none⟩ → g < w2.heap.size) := Lib.hid (fun g e => (Hown.out.lt g (by rw [e]; rfl)).2)
      have HgF : Hid (w2.heap.size ≤ gF ∧ w1.heap.size ≤ w5.heap.size) := Lib.hid ⟨Nat.le_trans Hb3.out.size hgF, by have h1 := Hb3.out.size; have h2 := hb5.size; have h3 := Hown.out; have h4 := Hb2.out.size; have h5 := Hsz12.out; omega⟩
      have Hb5 : Hid (Below w.heap.size w w5) := Lib.hid ((Hb2.out.trans (Hb3.out.mono Hb2.out.size)).trans (hb5.mono (Nat.le_trans Hb2.out.size Hb3.out.size)))
      clear hB5 hb5 hgF Hf Hb3 Hown
      go_simp
      go_wp2_with fail
      go_loopw [45] (fun iv wr => ∃ k : Nat, k ≤ n ∧ iv = .int .i64 k ∧ Hid (wr.ownsRow w1.heap.size 35 5 (.slice va n vc) n (((ts.take k).map mvT ++ ts.drop k).flatMap tC)) ∧ Hid (Blk wr gF cs ∧ FilR (fragU wr w2.heap.size []) (Sx.parse ts).1 cs ∧ Below w.heap.size w wr ∧ w5.heap.size ≤ wr.heap.size)) (fun iv _ => n - (intOf iv).toNat)
      case atStart => exact ⟨0, Nat.zero_le _, rfl, Hown5, Lib.hid ⟨HBF.out, Hf5.out, Hb5.out, Nat.le_refl _⟩⟩
      case round =>
        obtain ⟨k, hkn, rfl, HO, HX⟩ := hrel
        by_cases hlt : k < n
        · obtain ⟨gl, hgl⟩ := own_addr HO.out (by omega)
          have hglt := Hlt.out gl hgl
          subst hgl
          have hidx : ∀ w, (Instr.indexAt 23 (.slice (some ⟨gl, 0, none⟩) n vc) (.int .i64 k)).run Tryz.prog w = .ok (.pointer (some ⟨gl, k * 5, none⟩)) w := fun w => own_idx hlt Tryz.underlying23 sizeTokE w
          have hset := mv_set ts (k := k) (by rw [Hn.out]; exact hlt)
          obtain ⟨o1, g1⟩ := HO.out.stored (k * 5 + 3) (.int .i64 3)
          obtain ⟨o2, g2⟩ := o1.stored (k * 5 + 4) (.int .i64 4)
          rw [hset] at o2
          have hlen := HO.out.1
          have hc3 : ∃ u, wr.cell? ⟨gl, k * 5 + 3, none⟩ = some u := ⟨_, (HO.out.cellAt (k * 5 + 3) (by omega)).trans (List.getElem?_eq_getElem (by omega))⟩
          have hc4 : ∃ u, wr.cell? ⟨gl, k * 5 + 4, none⟩ = some u := ⟨_, (HO.out.cellAt (k * 5 + 4) (by omega)).trans (List.getElem?_eq_getElem (by omega))⟩
          have hf3 := HO.out.frozenAt (k * 5 + 3)
          have hf4 := HO.out.frozenAt (k * 5 + 4)
          obtain ⟨z3, c3⟩ := hc3
          obtain ⟨z4, c4⟩ := hc4
          have hng : gl ≠ gF := by have := HgF.out.1; omega
          have HX2 : Hid (Blk ((wr.setCell ⟨gl, k * 5 + 3, none⟩ (.int .i64 3)).setCell ⟨gl, k * 5 + 4, none⟩ (.int .i64 4)) gF cs ∧ FilR (fragU ((wr.setCell ⟨gl, k * 5 + 3, none⟩ (.int .i64 3)).setCell ⟨gl, k * 5 + 4, none⟩ (.int .i64 4)) w2.heap.size []) (Sx.parse ts).1 cs ∧ Below w.heap.size w ((wr.setCell ⟨gl, k * 5 + 3, none⟩ (.int .i64 3)).setCell ⟨gl, k * 5 + 4, none⟩ (.int .i64 4)) ∧ w5.heap.size ≤ ((wr.setCell ⟨gl, k * 5 + 3, none⟩ (.int .i64 3)).setCell ⟨gl, k * 5 + 4, none⟩ (.int .i64 4)).heap.size) := by
            have hge := (HO.out.lt gl rfl).1
            have hb1 := Hb1.out.size
            refine Lib.hid ⟨(HX.out.1.grown g1 (fun e => hng (Option.some.inj e).symm)).grown g2 (fun e => hng (Option.some.inj e).symm), (HX.out.2.1.mono (fragU_grown g1 (fun k e => by cases e; left; exact hglt) (fun k hk => .inl hk))).mono (fragU_grown g2 (fun k e => by cases e; left; exact hglt) (fun k hk => .inl hk)), ?_, Nat.le_trans HX.out.2.2.2 (Nat.le_trans g1.size g2.size)⟩
            exact Below.grown (Below.grown HX.out.2.2.1 g1 HX.out.2.2.1.size (fun k e => by cases e; omega)) g2 (Nat.le_trans HX.out.2.2.1.size g1.size) (fun k e => by cases e; omega)
          have HO2 := Lib.hid o2
          clear hset o1 g1 o2 g2 hlen hglt hng HX
          go_wp2_with fail
          go_roundw
          case rel => exact ⟨k + 1, by omega, by go_num, HO2, HX2⟩
          case measure => simp [intOf]; omega
        · obtain rfl : n = k := by omega
          have HOe : Hid (wr.ownsRow w1.heap.size 35 5 (.slice va n vc) n ((ts.map mvT).flatMap tC)) := Lib.hid (by
            have h1 := HO.out
            rw [List.take_of_length_le (by rw [Hn.out]; exact Nat.le_refl _), List.drop_of_length_le (by rw [Hn.out]; exact Nat.le_refl _), List.append_nil] at h1
            exact h1)
          have HFt : Hid (FlatV tC (frag wr) (.slice va n vc) (ts.map mvT)) := Lib.hid (by
            have h1 := FlatV.of_owns (f := tC) (E := []) (n := n) (xs := ts.map mvT) HOe.out (by rw [List.length_map]; exact Hn.out) (.inr (by simp))
            rw [fragE_nil] at h1
            exact h1)
          have HP := Lib.hid (parse_any A (.slice va n vc) (ts.map mvT) wr (HV.out.keep HX.out.2.2.1) (mv_small Hsm.out) HFt.out)
          have HP2 : Hid (Calls Tryz.prog 11 #[.slice va n vc] wr (FilePost wr (Sx.parse (ts.map mvT)).1 (Sx.parse (ts.map mvT)).2.isSome)) := Lib.hid (HP.out.mono (fun e w' h => file_of_parse h (fun x hx => parse_some hx)))
          clear HP HFt HO HOe hlt hkn
          have HG := Lib.hid (Sx.gaps ts mvT (fun t => rfl))
          have HC := Lib.hid (Sx.parse_cnt ts)
          have HC2 := Lib.hid (Sx.parse_cnt (ts.map mvT))
          have hfew := Hsm.out.few
          have Hfew2 : Hid ((ts.map mvT).length ≤ 5000) := Lib.hid (by rw [List.length_map]; exact hfew)
          have Hfew1 := Lib.hid hfew
          clear hfew
          obtain ⟨wl, hwl⟩ : ∃ z, z = wr := ⟨_, rfl⟩
          subst hwl
          generalize Sx.parse (ts.map mvT) = P2 at *
          generalize Sx.parse ts = P1 at *
          obtain ⟨f1, er1⟩ := P1
          obtain ⟨f2, er2⟩ := P2
          simp only at HP2 HX HG HC HC2 Hev
          go_wp2_with fail
          refine HP2.out.mono ?_
          rintro e w6 ⟨ds, ev2, rfl, hf2, hb6, hev2⟩
          have Hds : Hid (ds.length = 3 ∧ ∀ u ∈ ds, u.oneCell' = true) := Lib.hid (filR_form hf2)
          have Hf6 := Lib.hid (hf2.mono (fragU_le _ _ _)); have Hev2 := Lib.hid hev2; have Hb6 := Lib.hid hb6
          clear hf2 hev2 hb6 HP2 Hn HV HV1 HV2 Hlt Hsz12 Hown5 HBF Hf5 Hb5 Hb1 Hb2
          go_upto_region 15 with (first
            | (refine wpList_alloc_lay rfl 31 rfl zFl zeroFl ?_; (intro w7 gG hgG hB7 hb7))
            | (refine wpList_store_all rfl 31 _ _ rfl gG ds rfl rfl zFl hB7 ?_ ?_ ?_ ?_; (· rw [Hds.out.1]; exact infoFl); (· exact Hds.out.1); (· exact Hds.out.2); (intro w8 hB8 hgr8; have hb8 := Below.grown hb7 hgr8 hb7.size (fun _ e => by cases e; exact hgG); clear hb7 hgr8 hB7)))
          have HB8 : Hid (Blk w8 gF cs ∧ Blk w8 gG ds) := Lib.hid ⟨((HX.out.1.below Hb6.out HX.out.1.lt).below hb8 (HX.out.1.below Hb6.out HX.out.1.lt).lt), hB8⟩
          have HF8 : Hid (FilR (frag w8) f1 cs ∧ FilR (frag w8) f2 ds) := Lib.hid ⟨((HX.out.2.1.mono (fragU_le _ _ _)).mono (below_le Hb6.out)).mono (below_le hb8), Hf6.out.mono (below_le hb8)⟩
          have HW8 : Hid (Below w.heap.size w w8) := Lib.hid ((HX.out.2.2.1.trans (Hb6.out.mono HX.out.2.2.1.size)).trans (hb8.mono (Nat.le_trans HX.out.2.2.1.size Hb6.out.size)))
          clear hB8 hb8 hgG HX Hb6 Hf6 HgF
          obtain ⟨q, hq⟩ : ∃ z, z = !er1.isSome := ⟨_, rfl⟩
          have Hq1 : Hid (er1.isSome = !q) := Lib.hid (by rw [hq]; simp)
          have Hq2 : Hid (er2.isSome = !q) := Lib.hid (HG.out.1.trans Hq1.out)
          clear hq
          refine wp_region_G 99 (fun _ => True) (fun _ => True) (by kernel_rfl) trivial trivial (fun _ => ?_)
          refine wpAnyG_take0 (i := 0) (v := ev) rfl (by kernel_rfl) (fun _ _ _ h => h) (.inl ⟨by rfl, fun w hw => by go_simp⟩) (InvG.mk trivial trivial) ?_
          refine fgA5_124 ?_
          refine wpAnyG_take0 (i := 1) (v := .bool q) rfl (by kernel_rfl) (fun _ _ _ h => h) (.inl ⟨by rfl, fun w hw => by clear hw; have e2 := Hq1.out; rcases Hev.out with ⟨h1, e1⟩ | ⟨g, h1, e1⟩ <;> rw [e1] at e2 <;> cases q <;> first | (exfalso; simp at e2; done) | (subst h1; clear e1 e2; go_simp)⟩) (InvG.mk trivial trivial) ?_
          refine fgA5_124 ?_
          refine wpAnyG_take0 (i := 2) (v := ev2) rfl (by kernel_rfl) (fun _ _ _ h => h) (.inl ⟨by rfl, fun w hw => by go_simp⟩) (InvG.mk trivial trivial) ?_
          refine fgA5_124 ?_
          refine wpAnyG_take0 (i := 3) (v := .bool q) rfl (by kernel_rfl) (fun _ _ _ h => h) (.inl ⟨by rfl, fun w hw => by clear hw; have e2 := Hq2.out; rcases Hev2.out with ⟨h1, e1⟩ | ⟨g, h1, e1⟩ <;> rw [e1] at e2 <;> cases q <;> first | (exfalso; simp at e2; done) | (subst h1; clear e1 e2; go_simp)⟩) (InvG.mk trivial trivial) ?_
          refine fgA5_124 ?_
          refine wpAnyG_take0 (i := 4) (v := .bool false) rfl (by kernel_rfl) (fun _ _ _ h => h) (.inl ⟨by rfl, fun w hw => by clear hw; cases q <;> go_simp⟩) (InvG.mk trivial trivial) ?_
          refine fgA5_124 ?_
          refine wpAnyG_done (by kernel_rfl) ?_ _
          have HB9 : Hid (Blk w8.drew gF cs ∧ Blk w8.drew gG ds) := Lib.hid HB8.out
          have HF9 : Hid (FilR (frag w8.drew) f1 cs ∧ FilR (frag w8.drew) f2 ds) := Lib.hid HF8.out
          have HW9 : Hid (Below w.heap.size w w8.drew) := Lib.hid HW8.out.drew
          clear HB8 HF8 HW8 Hev Hev2 Hq1 Hq2
          generalize w8.drew = w9 at *
          go_upto_region 17 with fail
          go_cut [10, 11] from 67 to 72 (fun s10 s11 wx => ∃ (g10 g11 : Nat) (za zb : List Value), s10 = .pointer (some ⟨g10, 0, none⟩) ∧ s11 = .pointer (some ⟨g11, 0, none⟩) ∧ Hid (Blk wx g10 za ∧ Blk wx g11 zb) ∧ Hid (FilR (frag wx) (Sx.zL f1) za ∧ FilR (frag wx) (Sx.zL f2) zb) ∧ Hid (Below w9.heap.size w9 wx))
          case first =>
            refine wp_region_G 99 (fun w' => Blk w' gF cs ∧ Blk w' gG ds) (fun _ => True) (by kernel_rfl) HB9.out trivial (fun _ => ?_)
            refine wpAnyG_take0 (i := 0) (v := .agg cs.toArray) rfl (by kernel_rfl) (fun _ _ _ h => h) (yieldsIf_load_mid (by rfl) 31 _ rfl gF 0 (by go_simp) cs _ (fun w h => h.1.whole) Tryz.underlying31 rfl (by rw [Hcs.out.1]; exact infoFl)) (InvG.mk HB9.out trivial) ?_
            refine fgA10_124 ?_
            refine wpAnyG_take0 (i := 3) (v := .agg ds.toArray) rfl (by kernel_rfl) (fun _ _ _ h => h) (yieldsIf_load_mid (by rfl) 31 _ rfl gG 0 (by go_simp) ds _ (fun w h => h.2.whole) Tryz.underlying31 rfl (by rw [Hds.out.1]; exact infoFl)) (InvG.mk HB9.out trivial) ?_
            refine fgA10_124 ?_
            have P1_0 : Hid (FilR (fragE w9.drew []) f1 cs) := Lib.hid (by rw [fragE_nil]; exact HF9.out.1)
            have P2_0 : Hid (FilR (fragE w9.drew []) f2 ds) := Lib.hid (by rw [fragE_nil]; exact HF9.out.2)
            have PX_0 : Hid (Wd0 w9 gF gG cs ds w9.drew) := Lib.hid ⟨(Below.refl _ _).drew, HB9.out⟩
            generalize w9.drew = v0 at *
            have HE_0 : Hid (∀ k, some k ∈ ([] : List (Option Nat)) → k < v0.heap.size) := Lib.hid (fun k hk => by cases hk)
            refine wpAnyG_ready (rs := [1, 6, 7]) (by kernel_rfl) (by simp) ?_
            refine AllReadyG.plain rfl rfl (fun K hK => ?_) (AllReadyG.plain rfl rfl (fun K hK => ?_) (AllReadyG.plain rfl rfl (fun K hK => ?_) (AllReadyG.nil)))
            ·have HC := Lib.hid (Of_any _ f1 cs v0 (fragE_le v0 []) P1_0.out)
             go_simp
             refine HC.out.mono ?_
             rintro e v1 ⟨c1, rfl, hr, hb⟩
             have Pc1_1 := Lib.hid (FilR.mono (fragJ_E hb HE_0.out) hr)
             have HE_1 := Lib.hid (he_next HE_0.out hb)
             have P2_1 := Lib.hid (fil_next P2_0.out hb)
             have PX_1 := Lib.hid (PX_0.out.call hb)
             refine hK.out _ _ (InvG.mk PX_1.out.B trivial) (fun _ => ?_)
             clear hK HC hr hb PX_0 HE_0 P1_0 P2_0
             refine fgA10_124 ?_
             refine wpAnyG_ready (rs := [2, 6, 7]) (by kernel_rfl) (by simp) ?_
             refine AllReadyG.plain rfl rfl (fun K hK => ?_) (AllReadyG.plain rfl rfl (fun K hK => ?_) (AllReadyG.plain rfl rfl (fun K hK => ?_) (AllReadyG.nil)))
             ·have HC := Lib.hid (flat_any _ f1 c1 v1 (fragE_le v1 []) Pc1_1.out)
              go_simp
              refine HC.out.mono ?_
              rintro e v2 ⟨c2, rfl, hr, hb⟩
              have Pc2_2 := Lib.hid (FilR.mono (fragJ_E hb HE_1.out) hr)
              have HE_2 := Lib.hid (he_next HE_1.out hb)
              have P2_2 := Lib.hid (fil_next P2_1.out hb)
              have PX_2 := Lib.hid (PX_1.out.call hb)
              refine hK.out _ _ (InvG.mk PX_2.out.B trivial) (fun _ => ?_)
              clear hK HC hr hb PX_1 HE_1 P2_1 Pc1_1
              refine fgA10_124 ?_
              refine wpAnyG_ready (rs := [4, 6, 7]) (by kernel_rfl) (by simp) ?_
              refine AllReadyG.plain rfl rfl (fun K hK => ?_) (AllReadyG.plain rfl rfl (fun K hK => ?_) (AllReadyG.plain rfl rfl (fun K hK => ?_) (AllReadyG.nil)))
              ·have HC := Lib.hid (Of_any _ f2 ds v2 (fragE_le v2 []) P2_2.out)
               go_simp
               refine HC.out.mono ?_
               rintro e v3 ⟨c4, rfl, hr, hb⟩
               have Pc4_3 := Lib.hid (FilR.mono (fragJ_E hb HE_2.out) hr)
               have HE_3 := Lib.hid (he_next HE_2.out hb)
               have Pc2_3 := Lib.hid (fil_next Pc2_2.out hb)
               have PX_3 := Lib.hid (PX_2.out.call hb)
               refine hK.out _ _ (InvG.mk PX_3.out.B trivial) (fun _ => ?_)
               clear hK HC hr hb PX_2 HE_2 P2_2 Pc2_2
               refine fgA10_124 ?_
               refine wpAnyG_ready (rs := [5, 6, 7]) (by kernel_rfl) (by simp) ?_
               refine AllReadyG.plain rfl rfl (fun K hK => ?_) (AllReadyG.plain rfl rfl (fun K hK => ?_) (AllReadyG.plain rfl rfl (fun K hK => ?_) (AllReadyG.nil)))
               ·have HC := Lib.hid (flat_any _ f2 c4 v3 (fragE_le v3 []) Pc4_3.out)
                go_simp
                refine HC.out.mono ?_
                rintro e v4 ⟨c5, rfl, hr, hb⟩
                have Pc5_4 := Lib.hid (FilR.mono (fragJ_E hb HE_3.out) hr)
                have HE_4 := Lib.hid (he_next HE_3.out hb)
                have Pc2_4 := Lib.hid (fil_next Pc2_3.out hb)
                have PX_4 := Lib.hid (PX_3.out.call hb)
                refine hK.out _ _ (InvG.mk PX_4.out.B trivial) (fun _ => ?_)
                clear hK HC hr hb PX_3 HE_3 Pc2_3 Pc4_3
                refine fgA10_124 ?_
                refine wpAnyG_ready (rs := [6, 7]) (by kernel_rfl) (by simp) ?_
                refine AllReadyG.plain rfl rfl (fun K hK => ?_) (AllReadyG.plain rfl rfl (fun K hK => ?_) (AllReadyG.nil))
                ·refine wp_alloc_any 40 rfl zFl zeroRFl ?_
                 intro v5 g6 hg hA hb
                 have PA6_5 : Hid (Blk v5 g6 zFl) := Lib.hid hA
                 have G6 := Lib.hid (Nat.le_trans PX_4.out.W.size hg)
                 have HE_5 := Lib.hid (he_new HE_4.out hA hb)
                 have Pc2_5 := Lib.hid (fil_new Pc2_4.out hb hg)
                 have Pc5_5 := Lib.hid (fil_new Pc5_4.out hb hg)
                 have PX_5 := Lib.hid (PX_4.out.call hb)
                 refine hK.out _ _ (InvG.mk PX_5.out.B trivial) (fun _ => ?_)
                 clear hK hg hA hb PX_4 HE_4 Pc2_4 Pc5_4
                 refine fgA10_124 ?_
                 refine wpAnyG_ready (rs := [7]) (by kernel_rfl) (by simp) ?_
                 refine AllReadyG.plain rfl rfl (fun K hK => ?_) (AllReadyG.nil)
                 ·refine wp_alloc_any 40 rfl zFl zeroRFl ?_
                  intro v6 g7 hg hA hb
                  have PA7_6 : Hid (Blk v6 g7 zFl) := Lib.hid hA
                  have G7 := Lib.hid (Nat.le_trans PX_5.out.W.size hg)
                  have HE_6 := Lib.hid (he_new HE_5.out hA hb)
                  have PN := Lib.hid (Nat.lt_of_lt_of_le PA6_5.out.lt hg)
                  have Pc2_6 := Lib.hid (fil_new Pc2_5.out hb hg)
                  have Pc5_6 := Lib.hid (fil_new Pc5_5.out hb hg)
                  have PA6_6 := Lib.hid (PA6_5.out.below hb PA6_5.out.lt)
                  have PX_6 := Lib.hid (PX_5.out.call hb)
                  refine hK.out _ _ (InvG.mk PX_6.out.B trivial) (fun _ => ?_)
                  clear hK hg hA hb PX_5 HE_5 Pc2_5 Pc5_5 PA6_5
                  refine fgA10_124 ?_
                  have HL := Lib.hid (show Leaf w9 gF gG cs ds f1 f2 g6 g7 [some g7, some g6] c2 c5 v6 from ⟨⟨PX_6.out.W, PX_6.out.B, Pc2_6.out, Pc5_6.out, ⟨G6.out, G7.out⟩, (fun e => by have h := PN.out; omega), ⟨HB9.out.1.lt, HB9.out.2.lt⟩, ⟨by simp, by simp⟩⟩, ⟨PA6_6.out, PA7_6.out⟩⟩)
                  clear PX_6 Pc2_6 Pc5_6 PA6_6 PA7_6 HE_6
                  refine wpAnyG_ready (rs := [8]) (by kernel_rfl) (by simp) ?_
                  refine AllReadyG.plain rfl rfl (fun K hK => ?_) AllReadyG.nil
                  refine wp_store_any 40 _ _ rfl g6 c2 rfl rfl zFl HL.out.A.1 (by rw [(filR_form HL.out.r2).1]; exact infoRFl) (filR_form HL.out.r2).1 (filR_form HL.out.r2).2 ?_
                  intro y1 hS8 hgr
                  have HL1 := Lib.hid (HL.out.store hS8 hgr)
                  refine hK.out _ _ (InvG.mk HL1.out.B trivial) (fun _ => ?_)
                  clear hK hgr hS8 HL
                  refine fgA10_124 ?_
                  refine wpAnyG_ready (rs := [9]) (by kernel_rfl) (by simp) ?_
                  refine AllReadyG.plain rfl rfl (fun K hK => ?_) AllReadyG.nil
                  refine wp_store_any 40 _ _ rfl g7 c5 rfl rfl zFl HL1.out.A7 (by rw [(filR_form HL1.out.r5).1]; exact infoRFl) (filR_form HL1.out.r5).1 (filR_form HL1.out.r5).2 ?_
                  intro y2 hS9 hgr
                  have HL2 := Lib.hid (HL1.out.store hS9 hgr)
                  refine hK.out _ _ (InvG.mk HL2.out.B trivial) (fun _ => ?_)
                  clear hK hgr hS9 HL1
                  refine fgA10_124 ?_
                  refine wpAnyG_done (by kernel_rfl) ?_ _
                  go_wp2_with fail
                  go_meet
                  exact ⟨g6, g7, c2, c5, rfl, rfl, Lib.hid HL2.out.S, Lib.hid HL2.out.R, Lib.hid HL2.out.W⟩
                ·refine wp_alloc_any 40 rfl zFl zeroRFl ?_
                 intro v5 g7 hg hA hb
                 have PA7_5 : Hid (Blk v5 g7 zFl) := Lib.hid hA
                 have G7 := Lib.hid (Nat.le_trans PX_4.out.W.size hg)
                 have HE_5 := Lib.hid (he_new HE_4.out hA hb)
                 have Pc2_5 := Lib.hid (fil_new Pc2_4.out hb hg)
                 have Pc5_5 := Lib.hid (fil_new Pc5_4.out hb hg)
                 have PX_5 := Lib.hid (PX_4.out.call hb)
                 refine hK.out _ _ (InvG.mk PX_5.out.B trivial) (fun _ => ?_)
                 clear hK hg hA hb PX_4 HE_4 Pc2_4 Pc5_4
                 refine fgA10_124 ?_
                 refine wpAnyG_ready (rs := [6]) (by kernel_rfl) (by simp) ?_
                 refine AllReadyG.plain rfl rfl (fun K hK => ?_) (AllReadyG.nil)
                 ·refine wp_alloc_any 40 rfl zFl zeroRFl ?_
                  intro v6 g6 hg hA hb
                  have PA6_6 : Hid (Blk v6 g6 zFl) := Lib.hid hA
                  have G6 := Lib.hid (Nat.le_trans PX_5.out.W.size hg)
                  have HE_6 := Lib.hid (he_new HE_5.out hA hb)
                  have PN := Lib.hid (Nat.lt_of_lt_of_le PA7_5.out.lt hg)
                  have Pc2_6 := Lib.hid (fil_new Pc2_5.out hb hg)
                  have Pc5_6 := Lib.hid (fil_new Pc5_5.out hb hg)
                  have PA7_6 := Lib.hid (PA7_5.out.below hb PA7_5.out.lt)
                  have PX_6 := Lib.hid (PX_5.out.call hb)
                  refine hK.out _ _ (InvG.mk PX_6.out.B trivial) (fun _ => ?_)
                  clear hK hg hA hb PX_5 HE_5 Pc2_5 Pc5_5 PA7_5
                  refine fgA10_124 ?_
                  have HL := Lib.hid (show Leaf w9 gF gG cs ds f1 f2 g6 g7 [some g6, some g7] c2 c5 v6 from ⟨⟨PX_6.out.W, PX_6.out.B, Pc2_6.out, Pc5_6.out, ⟨G6.out, G7.out⟩, (fun e => by have h := PN.out; omega), ⟨HB9.out.1.lt, HB9.out.2.lt⟩, ⟨by simp, by simp⟩⟩, ⟨PA6_6.out, PA7_6.out⟩⟩)
                  clear PX_6 Pc2_6 Pc5_6 PA6_6 PA7_6 HE_6
                  refine wpAnyG_ready (rs := [8]) (by kernel_rfl) (by simp) ?_
                  refine AllReadyG.plain rfl rfl (fun K hK => ?_) AllReadyG.nil
                  refine wp_store_any 40 _ _ rfl g6 c2 rfl rfl zFl HL.out.A.1 (by rw [(filR_form HL.out.r2).1]; exact infoRFl) (filR_form HL.out.r2).1 (filR_form HL.out.r2).2 ?_
                  intro y1 hS8 hgr
                  have HL1 := Lib.hid (HL.out.store hS8 hgr)
                  refine hK.out _ _ (InvG.mk HL1.out.B trivial) (fun _ => ?_)
                  clear hK hgr hS8 HL
                  refine fgA10_124 ?_
                  refine wpAnyG_ready (rs := [9]) (by kernel_rfl) (by simp) ?_
                  refine AllReadyG.plain rfl rfl (fun K hK => ?_) AllReadyG.nil
                  refine wp_store_any 40 _ _ rfl g7 c5 rfl rfl zFl HL1.out.A7 (by rw [(filR_form HL1.out.r5).1]; exact infoRFl) (filR_form HL1.out.r5).1 (filR_form HL1.out.r5).2 ?_
                  intro y2 hS9 hgr
                  have HL2 := Lib.hid (HL1.out.store hS9 hgr)
                  refine hK.out _ _ (InvG.mk HL2.out.B trivial) (fun _ => ?_)
                  clear hK hgr hS9 HL1
                  refine fgA10_124 ?_
                  refine wpAnyG_done (by kernel_rfl) ?_ _
                  go_wp2_with fail
                  go_meet
                  exact ⟨g6, g7, c2, c5, rfl, rfl, Lib.hid HL2.out.S, Lib.hid HL2.out.R, Lib.hid HL2.out.W⟩
               ·refine wp_alloc_any 40 rfl zFl zeroRFl ?_
                intro v4 g6 hg hA hb
                have PA6_4 : Hid (Blk v4 g6 zFl) := Lib.hid hA
                have G6 := Lib.hid (Nat.le_trans PX_3.out.W.size hg)
                have HE_4 := Lib.hid (he_new HE_3.out hA hb)
                have Pc2_4 := Lib.hid (fil_new Pc2_3.out hb hg)
                have Pc4_4 := Lib.hid (fil_new Pc4_3.out hb hg)
                have PX_4 := Lib.hid (PX_3.out.call hb)
                refine hK.out _ _ (InvG.mk PX_4.out.B trivial) (fun _ => ?_)
                clear hK hg hA hb PX_3 HE_3 Pc2_3 Pc4_3
                refine fgA10_124 ?_
                refine wpAnyG_ready (rs := [5, 7]) (by kernel_rfl) (by simp) ?_
                refine AllReadyG.plain rfl rfl (fun K hK => ?_) (AllReadyG.plain rfl rfl (fun K hK => ?_) (AllReadyG.nil))
                ·have HC := Lib.hid (flat_any _ f2 c4 v4 (fragE_le v4 [some g6]) Pc4_4.out)
                 go_simp
                 refine HC.out.mono ?_
                 rintro e v5 ⟨c5, rfl, hr, hb⟩
                 have Pc5_5 := Lib.hid (FilR.mono (fragJ_E hb HE_4.out) hr)
                 have HE_5 := Lib.hid (he_next HE_4.out hb)
                 have Pc2_5 := Lib.hid (fil_next Pc2_4.out hb)
                 have PA6_5 := Lib.hid (PA6_4.out.below hb PA6_4.out.lt)
                 have PX_5 := Lib.hid (PX_4.out.call hb)
                 refine hK.out _ _ (InvG.mk PX_5.out.B trivial) (fun _ => ?_)
                 clear hK HC hr hb PX_4 HE_4 Pc2_4 Pc4_4 PA6_4
                 refine fgA10_124 ?_
                 refine wpAnyG_ready (rs := [7]) (by kernel_rfl) (by simp) ?_
                 refine AllReadyG.plain rfl rfl (fun K hK => ?_) (AllReadyG.nil)
                 ·refine wp_alloc_any 40 rfl zFl zeroRFl ?_
                  intro v6 g7 hg hA hb
                  have PA7_6 : Hid (Blk v6 g7 zFl) := Lib.hid hA
                  have G7 := Lib.hid (Nat.le_trans PX_5.out.W.size hg)
                  have HE_6 := Lib.hid (he_new HE_5.out hA hb)
                  have PN := Lib.hid (Nat.lt_of_lt_of_le PA6_5.out.lt hg)
                  have Pc2_6 := Lib.hid (fil_new Pc2_5.out hb hg)
                  have PA6_6 := Lib.hid (PA6_5.out.below hb PA6_5.out.lt)
                  have Pc5_6 := Lib.hid (fil_new Pc5_5.out hb hg)
                  have PX_6 := Lib.hid (PX_5.out.call hb)
                  refine hK.out _ _ (InvG.mk PX_6.out.B trivial) (fun _ => ?_)
                  clear hK hg hA hb PX_5 HE_5 Pc2_5 PA6_5 Pc5_5
                  refine fgA10_124 ?_
                  have HL := Lib.hid (show Leaf w9 gF gG cs ds f1 f2 g6 g7 [some g7, some g6] c2 c5 v6 from ⟨⟨PX_6.out.W, PX_6.out.B, Pc2_6.out, Pc5_6.out, ⟨G6.out, G7.out⟩, (fun e => by have h := PN.out; omega), ⟨HB9.out.1.lt, HB9.out.2.lt⟩, ⟨by simp, by simp⟩⟩, ⟨PA6_6.out, PA7_6.out⟩⟩)
                  clear PX_6 Pc2_6 Pc5_6 PA6_6 PA7_6 HE_6
                  refine wpAnyG_ready (rs := [8]) (by kernel_rfl) (by simp) ?_
                  refine AllReadyG.plain rfl rfl (fun K hK => ?_) AllReadyG.nil
                  refine wp_store_any 40 _ _ rfl g6 c2 rfl rfl zFl HL.out.A.1 (by rw [(filR_form HL.out.r2).1]; exact infoRFl) (filR_form HL.out.r2).1 (filR_form HL.out.r2).2 ?_
                  intro y1 hS8 hgr
                  have HL1 := Lib.hid (HL.out.store hS8 hgr)
                  refine hK.out _ _ (InvG.mk HL1.out.B trivial) (fun _ => ?_)
                  clear hK hgr hS8 HL
                  refine fgA10_124 ?_
                  refine wpAnyG_ready (rs := [9]) (by kernel_rfl) (by simp) ?_
                  refine AllReadyG.plain rfl rfl (fun K hK => ?_) AllReadyG.nil
                  refine wp_store_any 40 _ _ rfl g7 c5 rfl rfl zFl HL1.out.A7 (by rw [(filR_form HL1.out.r5).1]; exact infoRFl) (filR_form HL1.out.r5).1 (filR_form HL1.out.r5).2 ?_
                  intro y2 hS9 hgr
                  have HL2 := Lib.hid (HL1.out.store hS9 hgr)
                  refine hK.out _ _ (InvG.mk HL2.out.B trivial) (fun _ => ?_)
                  clear hK hgr hS9 HL1
                  refine fgA10_124 ?_
                  refine wpAnyG_done (by kernel_rfl) ?_ _
                  go_wp2_with fail
                  go_meet
                  exact ⟨g6, g7, c2, c5, rfl, rfl, Lib.hid HL2.out.S, Lib.hid HL2.out.R, Lib.hid HL2.out.W⟩
                ·refine wp_alloc_any 40 rfl zFl zeroRFl ?_
                 intro v5 g7 hg hA hb
                 have PA7_5 : Hid (Blk v5 g7 zFl) := Lib.hid hA
                 have G7 := Lib.hid (Nat.le_trans PX_4.out.W.size hg)
                 have HE_5 := Lib.hid (he_new HE_4.out hA hb)
                 have PN := Lib.hid (Nat.lt_of_lt_of_le PA6_4.out.lt hg)
                 have Pc2_5 := Lib.hid (fil_new Pc2_4.out hb hg)
                 have Pc4_5 := Lib.hid (fil_new Pc4_4.out hb hg)
                 have PA6_5 := Lib.hid (PA6_4.out.below hb PA6_4.out.lt)
                 have PX_5 := Lib.hid (PX_4.out.call hb)
                 refine hK.out _ _ (InvG.mk PX_5.out.B trivial) (fun _ => ?_)
                 clear hK hg hA hb PX_4 HE_4 Pc2_4 Pc4_4 PA6_4
                 refine fgA10_124 ?_
                 refine wpAnyG_ready (rs := [5]) (by kernel_rfl) (by simp) ?_
                 refine AllReadyG.plain rfl rfl (fun K hK => ?_) (AllReadyG.nil)
                 ·have HC := Lib.hid (flat_any _ f2 c4 v5 (fragE_le v5 [some g7, some g6]) Pc4_5.out)
                  go_simp
                  refine HC.out.mono ?_
                  rintro e v6 ⟨c5, rfl, hr, hb⟩
                  have Pc5_6 := Lib.hid (FilR.mono (fragJ_E hb HE_5.out) hr)
                  have HE_6 := Lib.hid (he_next HE_5.out hb)
                  have Pc2_6 := Lib.hid (fil_next Pc2_5.out hb)
                  have PA6_6 := Lib.hid (PA6_5.out.below hb PA6_5.out.lt)
                  have PA7_6 := Lib.hid (PA7_5.out.below hb PA7_5.out.lt)
                  have PX_6 := Lib.hid (PX_5.out.call hb)
                  refine hK.out _ _ (InvG.mk PX_6.out.B trivial) (fun _ => ?_)
                  clear hK HC hr hb PX_5 HE_5 Pc2_5 Pc4_5 PA6_5 PA7_5
                  refine fgA10_124 ?_
                  have HL := Lib.hid (show Leaf w9 gF gG cs ds f1 f2 g6 g7 [some g7, some g6] c2 c5 v6 from ⟨⟨PX_6.out.W, PX_6.out.B, Pc2_6.out, Pc5_6.out, ⟨G6.out, G7.out⟩, (fun e => by have h := PN.out; omega), ⟨HB9.out.1.lt, HB9.out.2.lt⟩, ⟨by simp, by simp⟩⟩, ⟨PA6_6.out, PA7_6.out⟩⟩)
                  clear PX_6 Pc2_6 Pc5_6 PA6_6 PA7_6 HE_6
                  refine wpAnyG_ready (rs := [8]) (by kernel_rfl) (by simp) ?_
                  refine AllReadyG.plain rfl rfl (fun K hK => ?_) AllReadyG.nil
                  refine wp_store_any 40 _ _ rfl g6 c2 rfl rfl zFl HL.out.A.1 (by rw [(filR_form HL.out.r2).1]; exact infoRFl) (filR_form HL.out.r2).1 (filR_form HL.out.r2).2 ?_
                  intro y1 hS8 hgr
                  have HL1 := Lib.hid (HL.out.store hS8 hgr)
                  refine hK.out _ _ (InvG.mk HL1.out.B trivial) (fun _ => ?_)
                  clear hK hgr hS8 HL
                  refine fgA10_124 ?_
                  refine wpAnyG_ready (rs := [9]) (by kernel_rfl) (by simp) ?_
                  refine AllReadyG.plain rfl rfl (fun K hK => ?_) AllReadyG.nil
                  refine wp_store_any 40 _ _ rfl g7 c5 rfl rfl zFl HL1.out.A7 (by rw [(filR_form HL1.out.r5).1]; exact infoRFl) (filR_form HL1.out.r5).1 (filR_form HL1.out.r5).2 ?_
                  intro y2 hS9 hgr
                  have HL2 := Lib.hid (HL1.out.store hS9 hgr)
                  refine hK.out _ _ (InvG.mk HL2.out.B trivial) (fun _ => ?_)
                  clear hK hgr hS9 HL1
                  refine fgA10_124 ?_
                  refine wpAnyG_done (by kernel_rfl) ?_ _
                  go_wp2_with fail
                  go_meet
                  exact ⟨g6, g7, c2, c5, rfl, rfl, Lib.hid HL2.out.S, Lib.hid HL2.out.R, Lib.hid HL2.out.W⟩
               ·refine wp_alloc_any 40 rfl zFl zeroRFl ?_
                intro v4 g7 hg hA hb
                have PA7_4 : Hid (Blk v4 g7 zFl) := Lib.hid hA
                have G7 := Lib.hid (Nat.le_trans PX_3.out.W.size hg)
                have HE_4 := Lib.hid (he_new HE_3.out hA hb)
                have Pc2_4 := Lib.hid (fil_new Pc2_3.out hb hg)
                have Pc4_4 := Lib.hid (fil_new Pc4_3.out hb hg)
                have PX_4 := Lib.hid (PX_3.out.call hb)
                refine hK.out _ _ (InvG.mk PX_4.out.B trivial) (fun _ => ?_)
                clear hK hg hA hb PX_3 HE_3 Pc2_3 Pc4_3
                refine fgA10_124 ?_
                refine wpAnyG_ready (rs := [5, 6]) (by kernel_rfl) (by simp) ?_
                refine AllReadyG.plain rfl rfl (fun K hK => ?_) (AllReadyG.plain rfl rfl (fun K hK => ?_) (AllReadyG.nil))
                ·have HC := Lib.hid (flat_any _ f2 c4 v4 (fragE_le v4 [some g7]) Pc4_4.out)
                 go_simp
                 refine HC.out.mono ?_
                 rintro e v5 ⟨c5, rfl, hr, hb⟩
                 have Pc5_5 := Lib.hid (FilR.mono (fragJ_E hb HE_4.out) hr)
                 have HE_5 := Lib.hid (he_next HE_4.out hb)
                 have Pc2_5 := Lib.hid (fil_next Pc2_4.out hb)
                 have PA7_5 := Lib.hid (PA7_4.out.below hb PA7_4.out.lt)
                 have PX_5 := Lib.hid (PX_4.out.call hb)
                 refine hK.out _ _ (InvG.mk PX_5.out.B trivial) (fun _ => ?_)
                 clear hK HC hr hb PX_4 HE_4 Pc2_4 Pc4_4 PA7_4
                 refine fgA10_124 ?_
                 refine wpAnyG_ready (rs := [6]) (by kernel_rfl) (by simp) ?_
                 refine AllReadyG.plain rfl rfl (fun K hK => ?_) (AllReadyG.nil)
                 ·refine wp_alloc_any 40 rfl zFl zeroRFl ?_
                  intro v6 g6 hg hA hb
                  have PA6_6 : Hid (Blk v6 g6 zFl) := Lib.hid hA
                  have G6 := Lib.hid (Nat.le_trans PX_5.out.W.size hg)
                  have HE_6 := Lib.hid (he_new HE_5.out hA hb)
                  have PN := Lib.hid (Nat.lt_of_lt_of_le PA7_5.out.lt hg)
                  have Pc2_6 := Lib.hid (fil_new Pc2_5.out hb hg)
                  have PA7_6 := Lib.hid (PA7_5.out.below hb PA7_5.out.lt)
                  have Pc5_6 := Lib.hid (fil_new Pc5_5.out hb hg)
                  have PX_6 := Lib.hid (PX_5.out.call hb)
                  refine hK.out _ _ (InvG.mk PX_6.out.B trivial) (fun _ => ?_)
                  clear hK hg hA hb PX_5 HE_5 Pc2_5 PA7_5 Pc5_5
                  refine fgA10_124 ?_
                  have HL := Lib.hid (show Leaf w9 gF gG cs ds f1 f2 g6 g7 [some g6, some g7] c2 c5 v6 from ⟨⟨PX_6.out.W, PX_6.out.B, Pc2_6.out, Pc5_6.out, ⟨G6.out, G7.out⟩, (fun e => by have h := PN.out; omega), ⟨HB9.out.1.lt, HB9.out.2.lt⟩, ⟨by simp, by simp⟩⟩, ⟨PA6_6.out, PA7_6.out⟩⟩)
                  clear PX_6 Pc2_6 Pc5_6 PA6_6 PA7_6 HE_6
                  refine wpAnyG_ready (rs := [8]) (by kernel_rfl) (by simp) ?_
                  refine AllReadyG.plain rfl rfl (fun K hK => ?_) AllReadyG.nil
                  refine wp_store_any 40 _ _ rfl g6 c2 rfl rfl zFl HL.out.A.1 (by rw [(filR_form HL.out.r2).1]; exact infoRFl) (filR_form HL.out.r2).1 (filR_form HL.out.r2).2 ?_
                  intro y1 hS8 hgr
                  have HL1 := Lib.hid (HL.out.store hS8 hgr)
                  refine hK.out _ _ (InvG.mk HL1.out.B trivial) (fun _ => ?_)
                  clear hK hgr hS8 HL
                  refine fgA10_124 ?_
                  refine wpAnyG_ready (rs := [9]) (by kernel_rfl) (by simp) ?_
                  refine AllReadyG.plain rfl rfl (fun K hK => ?_) AllReadyG.nil
                  refine wp_store_any 40 _ _ rfl g7 c5 rfl rfl zFl HL1.out.A7 (by rw [(filR_form HL1.out.r5).1]; exact infoRFl) (filR_form HL1.out.r5).1 (filR_form HL1.out.r5).2 ?_
                  intro y2 hS9 hgr
                  have HL2 := Lib.hid (HL1.out.store hS9 hgr)
                  refine hK.out _ _ (InvG.mk HL2.out.B trivial) (fun _ => ?_)
                  clear hK hgr hS9 HL1
                  refine fgA10_124 ?_
                  refine wpAnyG_done (by kernel_rfl) ?_ _
                  go_wp2_with fail
                  go_meet
                  exact ⟨g6, g7, c2, c5, rfl, rfl, Lib.hid HL2.out.S, Lib.hid HL2.out.R, Lib.hid HL2.out.W⟩
                ·refine wp_alloc_any 40 rfl zFl zeroRFl ?_
                 intro v5 g6 hg hA hb
                 have PA6_5 : Hid (Blk v5 g6 zFl) := Lib.hid hA
                 have G6 := Lib.hid (Nat.le_trans PX_4.out.W.size hg)
                 have HE_5 := Lib.hid (he_new HE_4.out hA hb)
                 have PN := Lib.hid (Nat.lt_of_lt_of_le PA7_4.out.lt hg)
                 have Pc2_5 := Lib.hid (fil_new Pc2_4.out hb hg)
                 have Pc4_5 := Lib.hid (fil_new Pc4_4.out hb hg)
                 have PA7_5 := Lib.hid (PA7_4.out.below hb PA7_4.out.lt)
                 have PX_5 := Lib.hid (PX_4.out.call hb)
                 refine hK.out _ _ (InvG.mk PX_5.out.B trivial) (fun _ => ?_)
                 clear hK hg hA hb PX_4 HE_4 Pc2_4 Pc4_4 PA7_4
                 refine fgA10_124 ?_
                 refine wpAnyG_ready (rs := [5]) (by kernel_rfl) (by simp) ?_
                 refine AllReadyG.plain rfl rfl (fun K hK => ?_) (AllReadyG.nil)
                 ·have HC := Lib.hid (flat_any _ f2 c4 v5 (fragE_le v5 [some g6, some g7]) Pc4_5.out)
                  go_simp
                  refine HC.out.mono ?_
                  rintro e v6 ⟨c5, rfl, hr, hb⟩
                  have Pc5_6 := Lib.hid (FilR.mono (fragJ_E hb HE_5.out) hr)
                  have HE_6 := Lib.hid (he_next HE_5.out hb)
                  have Pc2_6 := Lib.hid (fil_next Pc2_5.out hb)
                  have PA7_6 := Lib.hid (PA7_5.out.below hb PA7_5.out.lt)
                  have PA6_6 := Lib.hid (PA6_5.out.below hb PA6_5.out.lt)
                  have PX_6 := Lib.hid (PX_5.out.call hb)
                  refine hK.out _ _ (InvG.mk PX_6.out.B trivial) (fun _ => ?_)
                  clear hK HC hr hb PX_5 HE_5 Pc2_5 Pc4_5 PA7_5 PA6_5
                  refine fgA10_124 ?_
                  have HL := Lib.hid (show Leaf w9 gF gG cs ds f1 f2 g6 g7 [some g6, some g7] c2 c5 v6 from ⟨⟨PX_6.out.W, PX_6.out.B, Pc2_6.out, Pc5_6.out, ⟨G6.out, G7.out⟩, (fun e => by have h := PN.out; omega), ⟨HB9.out.1.lt, HB9.out.2.lt⟩, ⟨by simp, by simp⟩⟩, ⟨PA6_6.out, PA7_6.out⟩⟩)
                  clear PX_6 Pc2_6 Pc5_6 PA6_6 PA7_6 HE_6
                  refine wpAnyG_ready (rs := [8]) (by kernel_rfl) (by simp) ?_
                  refine AllReadyG.plain rfl rfl (fun K hK => ?_) AllReadyG.nil
                  refine wp_store_any 40 _ _ rfl g6 c2 rfl rfl zFl HL.out.A.1 (by rw [(filR_form HL.out.r2).1]; exact infoRFl) (filR_form HL.out.r2).1 (filR_form HL.out.r2).2 ?_
                  intro y1 hS8 hgr
                  have HL1 := Lib.hid (HL.out.store hS8 hgr)
                  refine hK.out _ _ (InvG.mk HL1.out.B trivial) (fun _ => ?_)
                  clear hK hgr hS8 HL
                  refine fgA10_124 ?_
                  refine wpAnyG_ready (rs := [9]) (by kernel_rfl) (by simp) ?_
                  refine AllReadyG.plain rfl rfl (fun K hK => ?_) AllReadyG.nil
                  refine wp_store_any 40 _ _ rfl g7 c5 rfl rfl zFl HL1.out.A7 (by rw [(filR_form HL1.out.r5).1]; exact infoRFl) (filR_form HL1.out.r5).1 (filR_form HL1.out.r5).2 ?_
                  intro y2 hS9 hgr
                  have HL2 := Lib.hid (HL1.out.store hS9 hgr)
                  refine hK.out _ _ (InvG.mk HL2.out.B trivial) (fun _ => ?_)
                  clear hK hgr hS9 HL1
                  refine fgA10_124 ?_
                  refine wpAnyG_done (by kernel_rfl) ?_ _
                  go_wp2_with fail
                  go_meet
                  exact ⟨g6, g7, c2, c5, rfl, rfl, Lib.hid HL2.out.S, Lib.hid HL2.out.R, Lib.hid HL2.out.W⟩
              ·refine wp_alloc_any 40 rfl zFl zeroRFl ?_
               intro v3 g6 hg hA hb
               have PA6_3 : Hid (Blk v3 g6 zFl) := Lib.hid hA
               have G6 := Lib.hid (Nat.le_trans PX_2.out.W.size hg)
               have HE_3 := Lib.hid (he_new HE_2.out hA hb)
               have P2_3 := Lib.hid (fil_new P2_2.out hb hg)
               have Pc2_3 := Lib.hid (fil_new Pc2_2.out hb hg)
               have PX_3 := Lib.hid (PX_2.out.call hb)
               refine hK.out _ _ (InvG.mk PX_3.out.B trivial) (fun _ => ?_)
               clear hK hg hA hb PX_2 HE_2 P2_2 Pc2_2
               refine fgA10_124 ?_
               refine wpAnyG_ready (rs := [4, 7]) (by kernel_rfl) (by simp) ?_
               refine AllReadyG.plain rfl rfl (fun K hK => ?_) (AllReadyG.plain rfl rfl (fun K hK => ?_) (AllReadyG.nil))
               ·have HC := Lib.hid (Of_any _ f2 ds v3 (fragE_le v3 [some g6]) P2_3.out)
                go_simp
                refine HC.out.mono ?_
                rintro e v4 ⟨c4, rfl, hr, hb⟩
                have Pc4_4 := Lib.hid (FilR.mono (fragJ_E hb HE_3.out) hr)
                have HE_4 := Lib.hid (he_next HE_3.out hb)
                have Pc2_4 := Lib.hid (fil_next Pc2_3.out hb)
                have PA6_4 := Lib.hid (PA6_3.out.below hb PA6_3.out.lt)
                have PX_4 := Lib.hid (PX_3.out.call hb)
                refine hK.out _ _ (InvG.mk PX_4.out.B trivial) (fun _ => ?_)
                clear hK HC hr hb PX_3 HE_3 P2_3 Pc2_3 PA6_3
                refine fgA10_124 ?_
                refine wpAnyG_ready (rs := [5, 7]) (by kernel_rfl) (by simp) ?_
                refine AllReadyG.plain rfl rfl (fun K hK => ?_) (AllReadyG.plain rfl rfl (fun K hK => ?_) (AllReadyG.nil))
                ·have HC := Lib.hid (flat_any _ f2 c4 v4 (fragE_le v4 [some g6]) Pc4_4.out)
                 go_simp
                 refine HC.out.mono ?_
                 rintro e v5 ⟨c5, rfl, hr, hb⟩
                 have Pc5_5 := Lib.hid (FilR.mono (fragJ_E hb HE_4.out) hr)
                 have HE_5 := Lib.hid (he_next HE_4.out hb)
                 have Pc2_5 := Lib.hid (fil_next Pc2_4.out hb)
                 have PA6_5 := Lib.hid (PA6_4.out.below hb PA6_4.out.lt)
                 have PX_5 := Lib.hid (PX_4.out.call hb)
                 refine hK.out _ _ (InvG.mk PX_5.out.B trivial) (fun _ => ?_)
                 clear hK HC hr hb PX_4 HE_4 Pc2_4 PA6_4 Pc4_4
                 refine fgA10_124 ?_
                 refine wpAnyG_ready (rs := [7]) (by kernel_rfl) (by simp) ?_
                 refine AllReadyG.plain rfl rfl (fun K hK => ?_) (AllReadyG.nil)
                 ·refine wp_alloc_any 40 rfl zFl zeroRFl ?_
                  intro v6 g7 hg hA hb
                  have PA7_6 : Hid (Blk v6 g7 zFl) := Lib.hid hA
                  have G7 := Lib.hid (Nat.le_trans PX_5.out.W.size hg)
                  have HE_6 := Lib.hid (he_new HE_5.out hA hb)
                  have PN := Lib.hid (Nat.lt_of_lt_of_le PA6_5.out.lt hg)
                  have Pc2_6 := Lib.hid (fil_new Pc2_5.out hb hg)
                  have PA6_6 := Lib.hid (PA6_5.out.below hb PA6_5.out.lt)
                  have Pc5_6 := Lib.hid (fil_new Pc5_5.out hb hg)
                  have PX_6 := Lib.hid (PX_5.out.call hb)
                  refine hK.out _ _ (InvG.mk PX_6.out.B trivial) (fun _ => ?_)
                  clear hK hg hA hb PX_5 HE_5 Pc2_5 PA6_5 Pc5_5
                  refine fgA10_124 ?_
                  have HL := Lib.hid (show Leaf w9 gF gG cs ds f1 f2 g6 g7 [some g7, some g6] c2 c5 v6 from ⟨⟨PX_6.out.W, PX_6.out.B, Pc2_6.out, Pc5_6.out, ⟨G6.out, G7.out⟩, (fun e => by have h := PN.out; omega), ⟨HB9.out.1.lt, HB9.out.2.lt⟩, ⟨by simp, by simp⟩⟩, ⟨PA6_6.out, PA7_6.out⟩⟩)
                  clear PX_6 Pc2_6 Pc5_6 PA6_6 PA7_6 HE_6
                  refine wpAnyG_ready (rs := [8]) (by kernel_rfl) (by simp) ?_
                  refine AllReadyG.plain rfl rfl (fun K hK => ?_) AllReadyG.nil
                  refine wp_store_any 40 _ _ rfl g6 c2 rfl rfl zFl HL.out.A.1 (by rw [(filR_form HL.out.r2).1]; exact infoRFl) (filR_form HL.out.r2).1 (filR_form HL.out.r2).2 ?_
                  intro y1 hS8 hgr
                  have HL1 := Lib.hid (HL.out.store hS8 hgr)
                  refine hK.out _ _ (InvG.mk HL1.out.B trivial) (fun _ => ?_)
                  clear hK hgr hS8 HL
                  refine fgA10_124 ?_
                  refine wpAnyG_ready (rs := [9]) (by kernel_rfl) (by simp) ?_
                  refine AllReadyG.plain rfl rfl (fun K hK => ?_) AllReadyG.nil
                  refine wp_store_any 40 _ _ rfl g7 c5 rfl rfl zFl HL1.out.A7 (by rw [(filR_form HL1.out.r5).1]; exact infoRFl) (filR_form HL1.out.r5).1 (filR_form HL1.out.r5).2 ?_
                  intro y2 hS9 hgr
                  have HL2 := Lib.hid (HL1.out.store hS9 hgr)
                  refine hK.out _ _ (InvG.mk HL2.out.B trivial) (fun _ => ?_)
                  clear hK hgr hS9 HL1
                  refine fgA10_124 ?_
                  refine wpAnyG_done (by kernel_rfl) ?_ _
                  go_wp2_with fail
                  go_meet
                  exact ⟨g6, g7, c2, c5, rfl, rfl, Lib.hid HL2.out.S, Lib.hid HL2.out.R, Lib.hid HL2.out.W⟩
                ·refine wp_alloc_any 40 rfl zFl zeroRFl ?_
                 intro v5 g7 hg hA hb
                 have PA7_5 : Hid (Blk v5 g7 zFl) := Lib.hid hA
                 have G7 := Lib.hid (Nat.le_trans PX_4.out.W.size hg)
                 have HE_5 := Lib.hid (he_new HE_4.out hA hb)
                 have PN := Lib.hid (Nat.lt_of_lt_of_le PA6_4.out.lt hg)
                 have Pc2_5 := Lib.hid (fil_new Pc2_4.out hb hg)
                 have PA6_5 := Lib.hid (PA6_4.out.below hb PA6_4.out.lt)
                 have Pc4_5 := Lib.hid (fil_new Pc4_4.out hb hg)
                 have PX_5 := Lib.hid (PX_4.out.call hb)
                 refine hK.out _ _ (InvG.mk PX_5.out.B trivial) (fun _ => ?_)
                 clear hK hg hA hb PX_4 HE_4 Pc2_4 PA6_4 Pc4_4
                 refine fgA10_124 ?_
                 refine wpAnyG_ready (rs := [5]) (by kernel_rfl) (by simp) ?_
                 refine AllReadyG.plain rfl rfl (fun K hK => ?_) (AllReadyG.nil)
                 ·have HC := Lib.hid (flat_any _ f2 c4 v5 (fragE_le v5 [some g7, some g6]) Pc4_5.out)
                  go_simp
                  refine HC.out.mono ?_
                  rintro e v6 ⟨c5, rfl, hr, hb⟩
                  have Pc5_6 := Lib.hid (FilR.mono (fragJ_E hb HE_5.out) hr)
                  have HE_6 := Lib.hid (he_next HE_5.out hb)
                  have Pc2_6 := Lib.hid (fil_next Pc2_5.out hb)
                  have PA6_6 := Lib.hid (PA6_5.out.below hb PA6_5.out.lt)
                  have PA7_6 := Lib.hid (PA7_5.out.below hb PA7_5.out.lt)
                  have PX_6 := Lib.hid (PX_5.out.call hb)
                  refine hK.out _ _ (InvG.mk PX_6.out.B trivial) (fun _ => ?_)
                  clear hK HC hr hb PX_5 HE_5 Pc2_5 PA6_5 Pc4_5 PA7_5
                  refine fgA10_124 ?_
                  have HL := Lib.hid (show Leaf w9 gF gG cs ds f1 f2 g6 g7 [some g7, some g6] c2 c5 v6 from ⟨⟨PX_6.out.W, PX_6.out.B, Pc2_6.out, Pc5_6.out, ⟨G6.out, G7.out⟩, (fun e => by have h := PN.out; omega), ⟨HB9.out.1.lt, HB9.out.2.lt⟩, ⟨by simp, by simp⟩⟩, ⟨PA6_6.out, PA7_6.out⟩⟩)
                  clear PX_6 Pc2_6 Pc5_6 PA6_6 PA7_6 HE_6
                  refine wpAnyG_ready (rs := [8]) (by kernel_rfl) (by simp) ?_
                  refine AllReadyG.plain rfl rfl (fun K hK => ?_) AllReadyG.nil
                  refine wp_store_any 40 _ _ rfl g6 c2 rfl rfl zFl HL.out.A.1 (by rw [(filR_form HL.out.r2).1]; exact infoRFl) (filR_form HL.out.r2).1 (filR_form HL.out.r2).2 ?_
                  intro y1 hS8 hgr
                  have HL1 := Lib.hid (HL.out.store hS8 hgr)
                  refine hK.out _ _ (InvG.mk HL1.out.B trivial) (fun _ => ?_)
                  clear hK hgr hS8 HL
                  refine fgA10_124 ?_
                  refine wpAnyG_ready (rs := [9]) (by kernel_rfl) (by simp) ?_
                  refine AllReadyG.plain rfl rfl (fun K hK => ?_) AllReadyG.nil
                  refine wp_store_any 40 _ _ rfl g7 c5 rfl rfl zFl HL1.out.A7 (by rw [(filR_form HL1.out.r5).1]; exact infoRFl) (filR_form HL1.out.r5).1 (filR_form HL1.out.r5).2 ?_
                  intro y2 hS9 hgr
                  have HL2 := Lib.hid (HL1.out.store hS9 hgr)
                  refine hK.out _ _ (InvG.mk HL2.out.B trivial) (fun _ => ?_)
                  clear hK hgr hS9 HL1
                  refine fgA10_124 ?_
                  refine wpAnyG_done (by kernel_rfl) ?_ _
                  go_wp2_with fail
                  go_meet
                  exact ⟨g6, g7, c2, c5, rfl, rfl, Lib.hid HL2.out.S, Lib.hid HL2.out.R, Lib.hid HL2.out.W⟩
               ·refine wp_alloc_any 40 rfl zFl zeroRFl ?_
                intro v4 g7 hg hA hb
                have PA7_4 : Hid (Blk v4 g7 zFl) := Lib.hid hA
                have G7 := Lib.hid (Nat.le_trans PX_3.out.W.size hg)
                have HE_4 := Lib.hid (he_new HE_3.out hA hb)
                have PN := Lib.hid (Nat.lt_of_lt_of_le PA6_3.out.lt hg)
                have P2_4 := Lib.hid (fil_new P2_3.out hb hg)
                have Pc2_4 := Lib.hid (fil_new Pc2_3.out hb hg)
                have PA6_4 := Lib.hid (PA6_3.out.below hb PA6_3.out.lt)
                have PX_4 := Lib.hid (PX_3.out.call hb)
                refine hK.out _ _ (InvG.mk PX_4.out.B trivial) (fun _ => ?_)
                clear hK hg hA hb PX_3 HE_3 P2_3 Pc2_3 PA6_3
                refine fgA10_124 ?_
                refine wpAnyG_ready (rs := [4]) (by kernel_rfl) (by simp) ?_
                refine AllReadyG.plain rfl rfl (fun K hK => ?_) (AllReadyG.nil)
                ·have HC := Lib.hid (Of_any _ f2 ds v4 (fragE_le v4 [some g7, some g6]) P2_4.out)
                 go_simp
                 refine HC.out.mono ?_
                 rintro e v5 ⟨c4, rfl, hr, hb⟩
                 have Pc4_5 := Lib.hid (FilR.mono (fragJ_E hb HE_4.out) hr)
                 have HE_5 := Lib.hid (he_next HE_4.out hb)
                 have Pc2_5 := Lib.hid (fil_next Pc2_4.out hb)
                 have PA6_5 := Lib.hid (PA6_4.out.below hb PA6_4.out.lt)
                 have PA7_5 := Lib.hid (PA7_4.out.below hb PA7_4.out.lt)
                 have PX_5 := Lib.hid (PX_4.out.call hb)
                 refine hK.out _ _ (InvG.mk PX_5.out.B trivial) (fun _ => ?_)
                 clear hK HC hr hb PX_4 HE_4 P2_4 Pc2_4 PA6_4 PA7_4
                 refine fgA10_124 ?_
                 refine wpAnyG_ready (rs := [5]) (by kernel_rfl) (by simp) ?_
                 refine AllReadyG.plain rfl rfl (fun K hK => ?_) (AllReadyG.nil)
                 ·have HC := Lib.hid (flat_any _ f2 c4 v5 (fragE_le v5 [some g7, some g6]) Pc4_5.out)
                  go_simp
                  refine HC.out.mono ?_
                  rintro e v6 ⟨c5, rfl, hr, hb⟩
                  have Pc5_6 := Lib.hid (FilR.mono (fragJ_E hb HE_5.out) hr)
                  have HE_6 := Lib.hid (he_next HE_5.out hb)
                  have Pc2_6 := Lib.hid (fil_next Pc2_5.out hb)
                  have PA6_6 := Lib.hid (PA6_5.out.below hb PA6_5.out.lt)
                  have PA7_6 := Lib.hid (PA7_5.out.below hb PA7_5.out.lt)
                  have PX_6 := Lib.hid (PX_5.out.call hb)
                  refine hK.out _ _ (InvG.mk PX_6.out.B trivial) (fun _ => ?_)
                  clear hK HC hr hb PX_5 HE_5 Pc2_5 PA6_5 PA7_5 Pc4_5
                  refine fgA10_124 ?_
                  have HL := Lib.hid (show Leaf w9 gF gG cs ds f1 f2 g6 g7 [some g7, some g6] c2 c5 v6 from ⟨⟨PX_6.out.W, PX_6.out.B, Pc2_6.out, Pc5_6.out, ⟨G6.out, G7.out⟩, (fun e => by have h := PN.out; omega), ⟨HB9.out.1.lt, HB9.out.2.lt⟩, ⟨by simp, by simp⟩⟩, ⟨PA6_6.out, PA7_6.out⟩⟩)
                  clear PX_6 Pc2_6 Pc5_6 PA6_6 PA7_6 HE_6
                  refine wpAnyG_ready (rs := [8]) (by kernel_rfl) (by simp) ?_
                  refine AllReadyG.plain rfl rfl (fun K hK => ?_) AllReadyG.nil
                  refine wp_store_any 40 _ _ rfl g6 c2 rfl rfl zFl HL.out.A.1 (by rw [(filR_form HL.out.r2).1]; exact infoRFl) (filR_form HL.out.r2).1 (filR_form HL.out.r2).2 ?_
                  intro y1 hS8 hgr
                  have HL1 := Lib.hid (HL.out.store hS8 hgr)
                  refine hK.out _ _ (InvG.mk HL1.out.B trivial) (fun _ => ?_)
                  clear hK hgr hS8 HL
                  refine fgA10_124 ?_
                  refine wpAnyG_ready (rs := [9]) (by kernel_rfl) (by simp) ?_
                  refine AllReadyG.plain rfl rfl (fun K hK => ?_) AllReadyG.nil
                  refine wp_store_any 40 _ _ rfl g7 c5 rfl rfl zFl HL1.out.A7 (by rw [(filR_form HL1.out.r5).1]; exact infoRFl) (filR_form HL1.out.r5).1 (filR_form HL1.out.r5).2 ?_
                  intro y2 hS9 hgr
                  have HL2 := Lib.hid (HL1.out.store hS9 hgr)
                  refine hK.out _ _ (InvG.mk HL2.out.B trivial) (fun _ => ?_)
                  clear hK hgr hS9 HL1
                  refine fgA10_124 ?_
                  refine wpAnyG_done (by kernel_rfl) ?_ _
                  go_wp2_with fail
                  go_meet
                  exact ⟨g6, g7, c2, c5, rfl, rfl, Lib.hid HL2.out.S, Lib.hid HL2.out.R, Lib.hid HL2.out.W⟩
              ·refine wp_alloc_any 40 rfl zFl zeroRFl ?_
               intro v3 g7 hg hA hb
               have PA7_3 : Hid (Blk v3 g7 zFl) := Lib.hid hA
               have G7 := Lib.hid (Nat.le_trans PX_2.out.W.size hg)
               have HE_3 := Lib.hid (he_new HE_2.out hA hb)
               have P2_3 := Lib.hid (fil_new P2_2.out hb hg)
               have Pc2_3 := Lib.hid (fil_new Pc2_2.out hb hg)
               have PX_3 := Lib.hid (PX_2.out.call hb)
               refine hK.out _ _ (InvG.mk PX_3.out.B trivial) (fun _ => ?_)
               clear hK hg hA hb PX_2 HE_2 P2_2 Pc2_2
               refine fgA10_124 ?_
               refine wpAnyG_ready (rs := [4, 6]) (by kernel_rfl) (by simp) ?_
               refine AllReadyG.plain rfl rfl (fun K hK => ?_) (AllReadyG.plain rfl rfl (fun K hK => ?_) (AllReadyG.nil))
               ·have HC := Lib.hid (Of_any _ f2 ds v3 (fragE_le v3 [some g7]) P2_3.out)
                go_simp
                refine HC.out.mono ?_
                rintro e v4 ⟨c4, rfl, hr, hb⟩
                have Pc4_4 := Lib.hid (FilR.mono (fragJ_E hb HE_3.out) hr)
                have HE_4 := Lib.hid (he_next HE_3.out hb)
                have Pc2_4 := Lib.hid (fil_next Pc2_3.out hb)
                have PA7_4 := Lib.hid (PA7_3.out.below hb PA7_3.out.lt)
                have PX_4 := Lib.hid (PX_3.out.call hb)
                refine hK.out _ _ (InvG.mk PX_4.out.B trivial) (fun _ => ?_)
                clear hK HC hr hb PX_3 HE_3 P2_3 Pc2_3 PA7_3
                refine fgA10_124 ?_
                refine wpAnyG_ready (rs := [5, 6]) (by kernel_rfl) (by simp) ?_
                refine AllReadyG.plain rfl rfl (fun K hK => ?_) (AllReadyG.plain rfl rfl (fun K hK => ?_) (AllReadyG.nil))
                ·have HC := Lib.hid (flat_any _ f2 c4 v4 (fragE_le v4 [some g7]) Pc4_4.out)
                 go_simp
                 refine HC.out.mono ?_
                 rintro e v5 ⟨c5, rfl, hr, hb⟩
                 have Pc5_5 := Lib.hid (FilR.mono (fragJ_E hb HE_4.out) hr)
                 have HE_5 := Lib.hid (he_next HE_4.out hb)
                 have Pc2_5 := Lib.hid (fil_next Pc2_4.out hb)
                 have PA7_5 := Lib.hid (PA7_4.out.below hb PA7_4.out.lt)
                 have PX_5 := Lib.hid (PX_4.out.call hb)
                 refine hK.out _ _ (InvG.mk PX_5.out.B trivial) (fun _ => ?_)
                 clear hK HC hr hb PX_4 HE_4 Pc2_4 PA7_4 Pc4_4
                 refine fgA10_124 ?_
                 refine wpAnyG_ready (rs := [6]) (by kernel_rfl) (by simp) ?_
                 refine AllReadyG.plain rfl rfl (fun K hK => ?_) (AllReadyG.nil)
                 ·refine wp_alloc_any 40 rfl zFl zeroRFl ?_
                  intro v6 g6 hg hA hb
                  have PA6_6 : Hid (Blk v6 g6 zFl) := Lib.hid hA
                  have G6 := Lib.hid (Nat.le_trans PX_5.out.W.size hg)
                  have HE_6 := Lib.hid (he_new HE_5.out hA hb)
                  have PN := Lib.hid (Nat.lt_of_lt_of_le PA7_5.out.lt hg)
                  have Pc2_6 := Lib.hid (fil_new Pc2_5.out hb hg)
                  have PA7_6 := Lib.hid (PA7_5.out.below hb PA7_5.out.lt)
                  have Pc5_6 := Lib.hid (fil_new Pc5_5.out hb hg)
                  have PX_6 := Lib.hid (PX_5.out.call hb)
                  refine hK.out _ _ (InvG.mk PX_6.out.B trivial) (fun _ => ?_)
                  clear hK hg hA hb PX_5 HE_5 Pc2_5 PA7_5 Pc5_5
                  refine fgA10_124 ?_
                  have HL := Lib.hid (show Leaf w9 gF gG cs ds f1 f2 g6 g7 [some g6, some g7] c2 c5 v6 from ⟨⟨PX_6.out.W, PX_6.out.B, Pc2_6.out, Pc5_6.out, ⟨G6.out, G7.out⟩, (fun e => by have h := PN.out; omega), ⟨HB9.out.1.lt, HB9.out.2.lt⟩, ⟨by simp, by simp⟩⟩, ⟨PA6_6.out, PA7_6.out⟩⟩)
                  clear PX_6 Pc2_6 Pc5_6 PA6_6 PA7_6 HE_6
                  refine wpAnyG_ready (rs := [8]) (by kernel_rfl) (by simp) ?_
                  refine AllReadyG.plain rfl rfl (fun K hK => ?_) AllReadyG.nil
                  refine wp_store_any 40 _ _ rfl g6 c2 rfl rfl zFl HL.out.A.1 (by rw [(filR_form HL.out.r2).1]; exact infoRFl) (filR_form HL.out.r2).1 (filR_form HL.out.r2).2 ?_
                  intro y1 hS8 hgr
                  have HL1 := Lib.hid (HL.out.store hS8 hgr)
                  refine hK.out _ _ (InvG.mk HL1.out.B trivial) (fun _ => ?_)
                  clear hK hgr hS8 HL
                  refine fgA10_124 ?_
                  refine wpAnyG_ready (rs := [9]) (by kernel_rfl) (by simp) ?_
                  refine AllReadyG.plain rfl rfl (fun K hK => ?_) AllReadyG.nil
                  refine wp_store_any 40 _ _ rfl g7 c5 rfl rfl zFl HL1.out.A7 (by rw [(filR_form HL1.out.r5).1]; exact infoRFl) (filR_form HL1.out.r5).1 (filR_form HL1.out.r5).2 ?_
                  intro y2 hS9 hgr
                  have HL2 := Lib.hid (HL1.out.store hS9 hgr)
                  refine hK.out _ _ (InvG.mk HL2.out.B trivial) (fun _ => ?_)
                  clear hK hgr hS9 HL1
                  refine fgA10_124 ?_
                  refine wpAnyG_done (by kernel_rfl) ?_ _
                  go_wp2_with fail
                  go_meet
                  exact ⟨g6, g7, c2, c5, rfl, rfl, Lib.hid HL2.out.S, Lib.hid HL2.out.R, Lib.hid HL2.out.W⟩
                ·refine wp_alloc_any 40 rfl zFl zeroRFl ?_
                 intro v5 g6 hg hA hb
                 have PA6_5 : Hid (Blk v5 g6 zFl) := Lib.hid hA
                 have G6 := Lib.hid (Nat.le_trans PX_4.out.W.size hg)
                 have HE_5 := Lib.hid (he_new HE_4.out hA hb)
                 have PN := Lib.hid (Nat.lt_of_lt_of_le PA7_4.out.lt hg)
                 have Pc2_5 := Lib.hid (fil_new Pc2_4.out hb hg)
                 have PA7_5 := Lib.hid (PA7_4.out.below hb PA7_4.out.lt)
                 have Pc4_5 := Lib.hid (fil_new Pc4_4.out hb hg)
                 have PX_5 := Lib.hid (PX_4.out.call hb)
                 refine hK.out _ _ (InvG.mk PX_5.out.B trivial) (fun _ => ?_)
                 clear hK hg hA hb PX_4 HE_4 Pc2_4 PA7_4 Pc4_4
                 refine fgA10_124 ?_
                 refine wpAnyG_ready (rs := [5]) (by kernel_rfl) (by simp) ?_
                 refine AllReadyG.plain rfl rfl (fun K hK => ?_) (AllReadyG.nil)
                 ·have HC := Lib.hid (flat_any _ f2 c4 v5 (fragE_le v5 [some g6, some g7]) Pc4_5.out)
                  go_simp
                  refine HC.out.mono ?_
                  rintro e v6 ⟨c5, rfl, hr, hb⟩
                  have Pc5_6 := Lib.hid (FilR.mono (fragJ_E hb HE_5.out) hr)
                  have HE_6 := Lib.hid (he_next HE_5.out hb)
                  have Pc2_6 := Lib.hid (fil_next Pc2_5.out hb)
                  have PA7_6 := Lib.hid (PA7_5.out.below hb PA7_5.out.lt)
                  have PA6_6 := Lib.hid (PA6_5.out.below hb PA6_5.out.lt)
                  have PX_6 := Lib.hid (PX_5.out.call hb)
                  refine hK.out _ _ (InvG.mk PX_6.out.B trivial) (fun _ => ?_)
                  clear hK HC hr hb PX_5 HE_5 Pc2_5 PA7_5 Pc4_5 PA6_5
                  refine fgA10_124 ?_
                  have HL := Lib.hid (show Leaf w9 gF gG cs ds f1 f2 g6 g7 [some g6, some g7] c2 c5 v6 from ⟨⟨PX_6.out.W, PX_6.out.B, Pc2_6.out, Pc5_6.out, ⟨G6.out, G7.out⟩, (fun e => by have h := PN.out; omega), ⟨HB9.out.1.lt, HB9.out.2.lt⟩, ⟨by simp, by simp⟩⟩, ⟨PA6_6.out, PA7_6.out⟩⟩)
                  clear PX_6 Pc2_6 Pc5_6 PA6_6 PA7_6 HE_6
                  refine wpAnyG_ready (rs := [8]) (by kernel_rfl) (by simp) ?_
                  refine AllReadyG.plain rfl rfl (fun K hK => ?_) AllReadyG.nil
                  refine wp_store_any 40 _ _ rfl g6 c2 rfl rfl zFl HL.out.A.1 (by rw [(filR_form HL.out.r2).1]; exact infoRFl) (filR_form HL.out.r2).1 (filR_form HL.out.r2).2 ?_
                  intro y1 hS8 hgr
                  have HL1 := Lib.hid (HL.out.store hS8 hgr)
                  refine hK.out _ _ (InvG.mk HL1.out.B trivial) (fun _ => ?_)
                  clear hK hgr hS8 HL
                  refine fgA10_124 ?_
                  refine wpAnyG_ready (rs := [9]) (by kernel_rfl) (by simp) ?_
                  refine AllReadyG.plain rfl rfl (fun K hK => ?_) AllReadyG.nil
                  refine wp_store_any 40 _ _ rfl g7 c5 rfl rfl zFl HL1.out.A7 (by rw [(filR_form HL1.out.r5).1]; exact infoRFl) (filR_form HL1.out.r5).1 (filR_form HL1.out.r5).2 ?_
                  intro y2 hS9 hgr
                  have HL2 := Lib.hid (HL1.out.store hS9 hgr)
                  refine hK.out _ _ (InvG.mk HL2.out.B trivial) (fun _ => ?_)
                  clear hK hgr hS9 HL1
                  refine fgA10_124 ?_
                  refine wpAnyG_done (by kernel_rfl) ?_ _
                  go_wp2_with fail
                  go_meet
                  exact ⟨g6, g7, c2, c5, rfl, rfl, Lib.hid HL2.out.S, Lib.hid HL2.out.R, Lib.hid HL2.out.W⟩
               ·refine wp_alloc_any 40 rfl zFl zeroRFl ?_
                intro v4 g6 hg hA hb
                have PA6_4 : Hid (Blk v4 g6 zFl) := Lib.hid hA
                have G6 := Lib.hid (Nat.le_trans PX_3.out.W.size hg)
                have HE_4 := Lib.hid (he_new HE_3.out hA hb)
                have PN := Lib.hid (Nat.lt_of_lt_of_le PA7_3.out.lt hg)
                have P2_4 := Lib.hid (fil_new P2_3.out hb hg)
                have Pc2_4 := Lib.hid (fil_new Pc2_3.out hb hg)
                have PA7_4 := Lib.hid (PA7_3.out.below hb PA7_3.out.lt)
                have PX_4 := Lib.hid (PX_3.out.call hb)
                refine hK.out _ _ (InvG.mk PX_4.out.B trivial) (fun _ => ?_)
                clear hK hg hA hb PX_3 HE_3 P2_3 Pc2_3 PA7_3
                refine fgA10_124 ?_
                refine wpAnyG_ready (rs := [4]) (by kernel_rfl) (by simp) ?_
                refine AllReadyG.plain rfl rfl (fun K hK => ?_) (AllReadyG.nil)
                ·have HC := Lib.hid (Of_any _ f2 ds v4 (fragE_le v4 [some g6, some g7]) P2_4.out)
                 go_simp
                 refine HC.out.mono ?_
                 rintro e v5 ⟨c4, rfl, hr, hb⟩
                 have Pc4_5 := Lib.hid (FilR.mono (fragJ_E hb HE_4.out) hr)
                 have HE_5 := Lib.hid (he_next HE_4.out hb)
                 have Pc2_5 := Lib.hid (fil_next Pc2_4.out hb)
                 have PA7_5 := Lib.hid (PA7_4.out.below hb PA7_4.out.lt)
                 have PA6_5 := Lib.hid (PA6_4.out.below hb PA6_4.out.lt)
                 have PX_5 := Lib.hid (PX_4.out.call hb)
                 refine hK.out _ _ (InvG.mk PX_5.out.B trivial) (fun _ => ?_)
                 clear hK HC hr hb PX_4 HE_4 P2_4 Pc2_4 PA7_4 PA6_4
                 refine fgA10_124 ?_
                 refine wpAnyG_ready (rs := [5]) (by kernel_rfl) (by simp) ?_
                 refine AllReadyG.plain rfl rfl (fun K hK => ?_) (AllReadyG.nil)
                 ·have HC := Lib.hid (flat_any _ f2 c4 v5 (fragE_le v5 [some g6, some g7]) Pc4_5.out)
                  go_simp
                  refine HC.out.mono ?_
                  rintro e v6 ⟨c5, rfl, hr, hb⟩
                  have Pc5_6 := Lib.hid (FilR.mono (fragJ_E hb HE_5.out) hr)
                  have HE_6 := Lib.hid (he_next HE_5.out hb)
                  have Pc2_6 := Lib.hid (fil_next Pc2_5.out hb)
                  have PA7_6 := Lib.hid (PA7_5.out.below hb PA7_5.out.lt)
                  have PA6_6 := Lib.hid (PA6_5.out.below hb PA6_5.out.lt)
                  have PX_6 := Lib.hid (PX_5.out.call hb)
                  refine hK.out _ _ (InvG.mk PX_6.out.B trivial) (fun _ => ?_)
                  clear hK HC hr hb PX_5 HE_5 Pc2_5 PA7_5 PA6_5 Pc4_5
                  refine fgA10_124 ?_
                  have HL := Lib.hid (show Leaf w9 gF gG cs ds f1 f2 g6 g7 [some g6, some g7] c2 c5 v6 from ⟨⟨PX_6.out.W, PX_6.out.B, Pc2_6.out, Pc5_6.out, ⟨G6.out, G7.out⟩, (fun e => by have h := PN.out; omega), ⟨HB9.out.1.lt, HB9.out.2.lt⟩, ⟨by simp, by simp⟩⟩, ⟨PA6_6.out, PA7_6.out⟩⟩)
                  clear PX_6 Pc2_6 Pc5_6 PA6_6 PA7_6 HE_6
                  refine wpAnyG_ready (rs := [8]) (by kernel_rfl) (by simp) ?_
                  refine AllReadyG.plain rfl rfl (fun K hK => ?_) AllReadyG.nil
                  refine wp_store_any 40 _ _ rfl g6 c2 rfl rfl zFl HL.out.A.1 (by rw [(filR_form HL.out.r2).1]; exact infoRFl) (filR_form HL.out.r2).1 (filR_form HL.out.r2).2 ?_
                  intro y1 hS8 hgr
                  have HL1 := Lib.hid (HL.out.store hS8 hgr)
                  refine hK.out _ _ (InvG.mk HL1.out.B trivial) (fun _ => ?_)
                  clear hK hgr hS8 HL
                  refine fgA10_124 ?_
                  refine wpAnyG_ready (rs := [9]) (by kernel_rfl) (by simp) ?_
                  refine AllReadyG.plain rfl rfl (fun K hK => ?_) AllReadyG.nil
                  refine wp_store_any 40 _ _ rfl g7 c5 rfl rfl zFl HL1.out.A7 (by rw [(filR_form HL1.out.r5).1]; exact infoRFl) (filR_form HL1.out.r5).1 (filR_form HL1.out.r5).2 ?_
                  intro y2 hS9 hgr
                  have HL2 := Lib.hid (HL1.out.store hS9 hgr)
                  refine hK.out _ _ (InvG.mk HL2.out.B trivial) (fun _ => ?_)
                  clear hK hgr hS9 HL1
                  refine fgA10_124 ?_
                  refine wpAnyG_done (by kernel_rfl) ?_ _
                  go_wp2_with fail
                  go_meet
                  exact ⟨g6, g7, c2, c5, rfl, rfl, Lib.hid HL2.out.S, Lib.hid HL2.out.R, Lib.hid HL2.out.W⟩
             ·refine wp_alloc_any 40 rfl zFl zeroRFl ?_
              intro v2 g6 hg hA hb
              have PA6_2 : Hid (Blk v2 g6 zFl) := Lib.hid hA
              have G6 := Lib.hid (Nat.le_trans PX_1.out.W.size hg)
              have HE_2 := Lib.hid (he_new HE_1.out hA hb)
              have P2_2 := Lib.hid (fil_new P2_1.out hb hg)
              have Pc1_2 := Lib.hid (fil_new Pc1_1.out hb hg)
              have PX_2 := Lib.hid (PX_1.out.call hb)
              refine hK.out _ _ (InvG.mk PX_2.out.B trivial) (fun _ => ?_)
              clear hK hg hA hb PX_1 HE_1 P2_1 Pc1_1
              refine fgA10_124 ?_
              refine wpAnyG_ready (rs := [2, 7]) (by kernel_rfl) (by simp) ?_
              refine AllReadyG.plain rfl rfl (fun K hK => ?_) (AllReadyG.plain rfl rfl (fun K hK => ?_) (AllReadyG.nil))
              ·have HC := Lib.hid (flat_any _ f1 c1 v2 (fragE_le v2 [some g6]) Pc1_2.out)
               go_simp
               refine HC.out.mono ?_
               rintro e v3 ⟨c2, rfl, hr, hb⟩
               have Pc2_3 := Lib.hid (FilR.mono (fragJ_E hb HE_2.out) hr)
               have HE_3 := Lib.hid (he_next HE_2.out hb)
               have P2_3 := Lib.hid (fil_next P2_2.out hb)
               have PA6_3 := Lib.hid (PA6_2.out.below hb PA6_2.out.lt)
               have PX_3 := Lib.hid (PX_2.out.call hb)
               refine hK.out _ _ (InvG.mk PX_3.out.B trivial) (fun _ => ?_)
               clear hK HC hr hb PX_2 HE_2 P2_2 Pc1_2 PA6_2
               refine fgA10_124 ?_
               refine wpAnyG_ready (rs := [4, 7]) (by kernel_rfl) (by simp) ?_
               refine AllReadyG.plain rfl rfl (fun K hK => ?_) (AllReadyG.plain rfl rfl (fun K hK => ?_) (AllReadyG.nil))
               ·have HC := Lib.hid (Of_any _ f2 ds v3 (fragE_le v3 [some g6]) P2_3.out)
                go_simp
                refine HC.out.mono ?_
                rintro e v4 ⟨c4, rfl, hr, hb⟩
                have Pc4_4 := Lib.hid (FilR.mono (fragJ_E hb HE_3.out) hr)
                have HE_4 := Lib.hid (he_next HE_3.out hb)
                have PA6_4 := Lib.hid (PA6_3.out.below hb PA6_3.out.lt)
                have Pc2_4 := Lib.hid (fil_next Pc2_3.out hb)
                have PX_4 := Lib.hid (PX_3.out.call hb)
                refine hK.out _ _ (InvG.mk PX_4.out.B trivial) (fun _ => ?_)
                clear hK HC hr hb PX_3 HE_3 P2_3 PA6_3 Pc2_3
                refine fgA10_124 ?_
                refine wpAnyG_ready (rs := [5, 7]) (by kernel_rfl) (by simp) ?_
                refine AllReadyG.plain rfl rfl (fun K hK => ?_) (AllReadyG.plain rfl rfl (fun K hK => ?_) (AllReadyG.nil))
                ·have HC := Lib.hid (flat_any _ f2 c4 v4 (fragE_le v4 [some g6]) Pc4_4.out)
                 go_simp
                 refine HC.out.mono ?_
                 rintro e v5 ⟨c5, rfl, hr, hb⟩
                 have Pc5_5 := Lib.hid (FilR.mono (fragJ_E hb HE_4.out) hr)
                 have HE_5 := Lib.hid (he_next HE_4.out hb)
                 have PA6_5 := Lib.hid (PA6_4.out.below hb PA6_4.out.lt)
                 have Pc2_5 := Lib.hid (fil_next Pc2_4.out hb)
                 have PX_5 := Lib.hid (PX_4.out.call hb)
                 refine hK.out _ _ (InvG.mk PX_5.out.B trivial) (fun _ => ?_)
                 clear hK HC hr hb PX_4 HE_4 PA6_4 Pc2_4 Pc4_4
                 refine fgA10_124 ?_
                 refine wpAnyG_ready (rs := [7]) (by kernel_rfl) (by simp) ?_
                 refine AllReadyG.plain rfl rfl (fun K hK => ?_) (AllReadyG.nil)
                 ·refine wp_alloc_any 40 rfl zFl zeroRFl ?_
                  intro v6 g7 hg hA hb
                  have PA7_6 : Hid (Blk v6 g7 zFl) := Lib.hid hA
                  have G7 := Lib.hid (Nat.le_trans PX_5.out.W.size hg)
                  have HE_6 := Lib.hid (he_new HE_5.out hA hb)
                  have PN := Lib.hid (Nat.lt_of_lt_of_le PA6_5.out.lt hg)
                  have PA6_6 := Lib.hid (PA6_5.out.below hb PA6_5.out.lt)
                  have Pc2_6 := Lib.hid (fil_new Pc2_5.out hb hg)
                  have Pc5_6 := Lib.hid (fil_new Pc5_5.out hb hg)
                  have PX_6 := Lib.hid (PX_5.out.call hb)
                  refine hK.out _ _ (InvG.mk PX_6.out.B trivial) (fun _ => ?_)
                  clear hK hg hA hb PX_5 HE_5 PA6_5 Pc2_5 Pc5_5
                  refine fgA10_124 ?_
                  have HL := Lib.hid (show Leaf w9 gF gG cs ds f1 f2 g6 g7 [some g7, some g6] c2 c5 v6 from ⟨⟨PX_6.out.W, PX_6.out.B, Pc2_6.out, Pc5_6.out, ⟨G6.out, G7.out⟩, (fun e => by have h := PN.out; omega), ⟨HB9.out.1.lt, HB9.out.2.lt⟩, ⟨by simp, by simp⟩⟩, ⟨PA6_6.out, PA7_6.out⟩⟩)
                  clear PX_6 Pc2_6 Pc5_6 PA6_6 PA7_6 HE_6
                  refine wpAnyG_ready (rs := [8]) (by kernel_rfl) (by simp) ?_
                  refine AllReadyG.plain rfl rfl (fun K hK => ?_) AllReadyG.nil
                  refine wp_store_any 40 _ _ rfl g6 c2 rfl rfl zFl HL.out.A.1 (by rw [(filR_form HL.out.r2).1]; exact infoRFl) (filR_form HL.out.r2).1 (filR_form HL.out.r2).2 ?_
                  intro y1 hS8 hgr
                  have HL1 := Lib.hid (HL.out.store hS8 hgr)
                  refine hK.out _ _ (InvG.mk HL1.out.B trivial) (fun _ => ?_)
                  clear hK hgr hS8 HL
                  refine fgA10_124 ?_
                  refine wpAnyG_ready (rs := [9]) (by kernel_rfl) (by simp) ?_
                  refine AllReadyG.plain rfl rfl (fun K hK => ?_) AllReadyG.nil
                  refine wp_store_any 40 _ _ rfl g7 c5 rfl rfl zFl HL1.out.A7 (by rw [(filR_form HL1.out.r5).1]; exact infoRFl) (filR_form HL1.out.r5).1 (filR_form HL1.out.r5).2 ?_
                  intro y2 hS9 hgr
                  have HL2 := Lib.hid (HL1.out.store hS9 hgr)
                  refine hK.out _ _ (InvG.mk HL2.out.B trivial) (fun _ => ?_)
                  clear hK hgr hS9 HL1
                  refine fgA10_124 ?_
                  refine wpAnyG_done (by kernel_rfl) ?_ _
                  go_wp2_with fail
                  go_meet
                  exact ⟨g6, g7, c2, c5, rfl, rfl, Lib.hid HL2.out.S, Lib.hid HL2.out.R, Lib.hid HL2.out.W⟩
                ·refine wp_alloc_any 40 rfl zFl zeroRFl ?_
                 intro v5 g7 hg hA hb
                 have PA7_5 : Hid (Blk v5 g7 zFl) := Lib.hid hA
                 have G7 := Lib.hid (Nat.le_trans PX_4.out.W.size hg)
                 have HE_5 := Lib.hid (he_new HE_4.out hA hb)
                 have PN := Lib.hid (Nat.lt_of_lt_of_le PA6_4.out.lt hg)
                 have PA6_5 := Lib.hid (PA6_4.out.below hb PA6_4.out.lt)
                 have Pc2_5 := Lib.hid (fil_new Pc2_4.out hb hg)
                 have Pc4_5 := Lib.hid (fil_new Pc4_4.out hb hg)
                 have PX_5 := Lib.hid (PX_4.out.call hb)
                 refine hK.out _ _ (InvG.mk PX_5.out.B trivial) (fun _ => ?_)
                 clear hK hg hA hb PX_4 HE_4 PA6_4 Pc2_4 Pc4_4
                 refine fgA10_124 ?_
                 refine wpAnyG_ready (rs := [5]) (by kernel_rfl) (by simp) ?_
                 refine AllReadyG.plain rfl rfl (fun K hK => ?_) (AllReadyG.nil)
                 ·have HC := Lib.hid (flat_any _ f2 c4 v5 (fragE_le v5 [some g7, some g6]) Pc4_5.out)
                  go_simp
                  refine HC.out.mono ?_
                  rintro e v6 ⟨c5, rfl, hr, hb⟩
                  have Pc5_6 := Lib.hid (FilR.mono (fragJ_E hb HE_5.out) hr)
                  have HE_6 := Lib.hid (he_next HE_5.out hb)
                  have PA6_6 := Lib.hid (PA6_5.out.below hb PA6_5.out.lt)
                  have Pc2_6 := Lib.hid (fil_next Pc2_5.out hb)
                  have PA7_6 := Lib.hid (PA7_5.out.below hb PA7_5.out.lt)
                  have PX_6 := Lib.hid (PX_5.out.call hb)
                  refine hK.out _ _ (InvG.mk PX_6.out.B trivial) (fun _ => ?_)
                  clear hK HC hr hb PX_5 HE_5 PA6_5 Pc2_5 Pc4_5 PA7_5
                  refine fgA10_124 ?_
                  have HL := Lib.hid (show Leaf w9 gF gG cs ds f1 f2 g6 g7 [some g7, some g6] c2 c5 v6 from ⟨⟨PX_6.out.W, PX_6.out.B, Pc2_6.out, Pc5_6.out, ⟨G6.out, G7.out⟩, (fun e => by have h := PN.out; omega), ⟨HB9.out.1.lt, HB9.out.2.lt⟩, ⟨by simp, by simp⟩⟩, ⟨PA6_6.out, PA7_6.out⟩⟩)
                  clear PX_6 Pc2_6 Pc5_6 PA6_6 PA7_6 HE_6
                  refine wpAnyG_ready (rs := [8]) (by kernel_rfl) (by simp) ?_
                  refine AllReadyG.plain rfl rfl (fun K hK => ?_) AllReadyG.nil
                  refine wp_store_any 40 _ _ rfl g6 c2 rfl rfl zFl HL.out.A.1 (by rw [(filR_form HL.out.r2).1]; exact infoRFl) (filR_form HL.out.r2).1 (filR_form HL.out.r2).2 ?_
                  intro y1 hS8 hgr
                  have HL1 := Lib.hid (HL.out.store hS8 hgr)
                  refine hK.out _ _ (InvG.mk HL1.out.B trivial) (fun _ => ?_)
                  clear hK hgr hS8 HL
                  refine fgA10_124 ?_
                  refine wpAnyG_ready (rs := [9]) (by kernel_rfl) (by simp) ?_
                  refine AllReadyG.plain rfl rfl (fun K hK => ?_) AllReadyG.nil
                  refine wp_store_any 40 _ _ rfl g7 c5 rfl rfl zFl HL1.out.A7 (by rw [(filR_form HL1.out.r5).1]; exact infoRFl) (filR_form HL1.out.r5).1 (filR_form HL1.out.r5).2 ?_
                  intro y2 hS9 hgr
                  have HL2 := Lib.hid (HL1.out.store hS9 hgr)
                  refine hK.out _ _ (InvG.mk HL2.out.B trivial) (fun _ => ?_)
                  clear hK hgr hS9 HL1
                  refine fgA10_124 ?_
                  refine wpAnyG_done (by kernel_rfl) ?_ _
                  go_wp2_with fail
                  go_meet
                  exact ⟨g6, g7, c2, c5, rfl, rfl, Lib.hid HL2.out.S, Lib.hid HL2.out.R, Lib.hid HL2.out.W⟩
               ·refine wp_alloc_any 40 rfl zFl zeroRFl ?_
                intro v4 g7 hg hA hb
                have PA7_4 : Hid (Blk v4 g7 zFl) := Lib.hid hA
                have G7 := Lib.hid (Nat.le_trans PX_3.out.W.size hg)
                have HE_4 := Lib.hid (he_new HE_3.out hA hb)
                have PN := Lib.hid (Nat.lt_of_lt_of_le PA6_3.out.lt hg)
                have P2_4 := Lib.hid (fil_new P2_3.out hb hg)
                have PA6_4 := Lib.hid (PA6_3.out.below hb PA6_3.out.lt)
                have Pc2_4 := Lib.hid (fil_new Pc2_3.out hb hg)
                have PX_4 := Lib.hid (PX_3.out.call hb)
                refine hK.out _ _ (InvG.mk PX_4.out.B trivial) (fun _ => ?_)
                clear hK hg hA hb PX_3 HE_3 P2_3 PA6_3 Pc2_3
                refine fgA10_124 ?_
                refine wpAnyG_ready (rs := [4]) (by kernel_rfl) (by simp) ?_
                refine AllReadyG.plain rfl rfl (fun K hK => ?_) (AllReadyG.nil)
                ·have HC := Lib.hid (Of_any _ f2 ds v4 (fragE_le v4 [some g7, some g6]) P2_4.out)
                 go_simp
                 refine HC.out.mono ?_
                 rintro e v5 ⟨c4, rfl, hr, hb⟩
                 have Pc4_5 := Lib.hid (FilR.mono (fragJ_E hb HE_4.out) hr)
                 have HE_5 := Lib.hid (he_next HE_4.out hb)
                 have PA6_5 := Lib.hid (PA6_4.out.below hb PA6_4.out.lt)
                 have Pc2_5 := Lib.hid (fil_next Pc2_4.out hb)
                 have PA7_5 := Lib.hid (PA7_4.out.below hb PA7_4.out.lt)
                 have PX_5 := Lib.hid (PX_4.out.call hb)
                 refine hK.out _ _ (InvG.mk PX_5.out.B trivial) (fun _ => ?_)
                 clear hK HC hr hb PX_4 HE_4 P2_4 PA6_4 Pc2_4 PA7_4
                 refine fgA10_124 ?_
                 refine wpAnyG_ready (rs := [5]) (by kernel_rfl) (by simp) ?_
                 refine AllReadyG.plain rfl rfl (fun K hK => ?_) (AllReadyG.nil)
                 ·have HC := Lib.hid (flat_any _ f2 c4 v5 (fragE_le v5 [some g7, some g6]) Pc4_5.out)
                  go_simp
                  refine HC.out.mono ?_
                  rintro e v6 ⟨c5, rfl, hr, hb⟩
                  have Pc5_6 := Lib.hid (FilR.mono (fragJ_E hb HE_5.out) hr)
                  have HE_6 := Lib.hid (he_next HE_5.out hb)
                  have PA6_6 := Lib.hid (PA6_5.out.below hb PA6_5.out.lt)
                  have Pc2_6 := Lib.hid (fil_next Pc2_5.out hb)
                  have PA7_6 := Lib.hid (PA7_5.out.below hb PA7_5.out.lt)
                  have PX_6 := Lib.hid (PX_5.out.call hb)
                  refine hK.out _ _ (InvG.mk PX_6.out.B trivial) (fun _ => ?_)
                  clear hK HC hr hb PX_5 HE_5 PA6_5 Pc2_5 PA7_5 Pc4_5
                  refine fgA10_124 ?_
                  have HL := Lib.hid (show Leaf w9 gF gG cs ds f1 f2 g6 g7 [some g7, some g6] c2 c5 v6 from ⟨⟨PX_6.out.W, PX_6.out.B, Pc2_6.out, Pc5_6.out, ⟨G6.out, G7.out⟩, (fun e => by have h := PN.out; omega), ⟨HB9.out.1.lt, HB9.out.2.lt⟩, ⟨by simp, by simp⟩⟩, ⟨PA6_6.out, PA7_6.out⟩⟩)
                  clear PX_6 Pc2_6 Pc5_6 PA6_6 PA7_6 HE_6
                  refine wpAnyG_ready (rs := [8]) (by kernel_rfl) (by simp) ?_
                  refine AllReadyG.plain rfl rfl (fun K hK => ?_) AllReadyG.nil
                  refine wp_store_any 40 _ _ rfl g6 c2 rfl rfl zFl HL.out.A.1 (by rw [(filR_form HL.out.r2).1]; exact infoRFl) (filR_form HL.out.r2).1 (filR_form HL.out.r2).2 ?_
                  intro y1 hS8 hgr
                  have HL1 := Lib.hid (HL.out.store hS8 hgr)
                  refine hK.out _ _ (InvG.mk HL1.out.B trivial) (fun _ => ?_)
                  clear hK hgr hS8 HL
                  refine fgA10_124 ?_
                  refine wpAnyG_ready (rs := [9]) (by kernel_rfl) (by simp) ?_
                  refine AllReadyG.plain rfl rfl (fun K hK => ?_) AllReadyG.nil
                  refine wp_store_any 40 _ _ rfl g7 c5 rfl rfl zFl HL1.out.A7 (by rw [(filR_form HL1.out.r5).1]; exact infoRFl) (filR_form HL1.out.r5).1 (filR_form HL1.out.r5).2 ?_
                  intro y2 hS9 hgr
                  have HL2 := Lib.hid (HL1.out.store hS9 hgr)
                  refine hK.out _ _ (InvG.mk HL2.out.B trivial) (fun _ => ?_)
                  clear hK hgr hS9 HL1
                  refine fgA10_124 ?_
                  refine wpAnyG_done (by kernel_rfl) ?_ _
                  go_wp2_with fail
                  go_meet
                  exact ⟨g6, g7, c2, c5, rfl, rfl, Lib.hid HL2.out.S, Lib.hid HL2.out.R, Lib.hid HL2.out.W⟩
              ·refine wp_alloc_any 40 rfl zFl zeroRFl ?_
               intro v3 g7 hg hA hb
               have PA7_3 : Hid (Blk v3 g7 zFl) := Lib.hid hA
               have G7 := Lib.hid (Nat.le_trans PX_2.out.W.size hg)
               have HE_3 := Lib.hid (he_new HE_2.out hA hb)
               have PN := Lib.hid (Nat.lt_of_lt_of_le PA6_2.out.lt hg)
               have P2_3 := Lib.hid (fil_new P2_2.out hb hg)
               have Pc1_3 := Lib.hid (fil_new Pc1_2.out hb hg)
               have PA6_3 := Lib.hid (PA6_2.out.below hb PA6_2.out.lt)
               have PX_3 := Lib.hid (PX_2.out.call hb)
               refine hK.out _ _ (InvG.mk PX_3.out.B trivial) (fun _ => ?_)
               clear hK hg hA hb PX_2 HE_2 P2_2 Pc1_2 PA6_2
               refine fgA10_124 ?_
               refine wpAnyG_ready (rs := [2]) (by kernel_rfl) (by simp) ?_
               refine AllReadyG.plain rfl rfl (fun K hK => ?_) (AllReadyG.nil)
               ·have HC := Lib.hid (flat_any _ f1 c1 v3 (fragE_le v3 [some g7, some g6]) Pc1_3.out)
                go_simp
                refine HC.out.mono ?_
                rintro e v4 ⟨c2, rfl, hr, hb⟩
                have Pc2_4 := Lib.hid (FilR.mono (fragJ_E hb HE_3.out) hr)
                have HE_4 := Lib.hid (he_next HE_3.out hb)
                have P2_4 := Lib.hid (fil_next P2_3.out hb)
                have PA6_4 := Lib.hid (PA6_3.out.below hb PA6_3.out.lt)
                have PA7_4 := Lib.hid (PA7_3.out.below hb PA7_3.out.lt)
                have PX_4 := Lib.hid (PX_3.out.call hb)
                refine hK.out _ _ (InvG.mk PX_4.out.B trivial) (fun _ => ?_)
                clear hK HC hr hb PX_3 HE_3 P2_3 Pc1_3 PA6_3 PA7_3
                refine fgA10_124 ?_
                refine wpAnyG_ready (rs := [4]) (by kernel_rfl) (by simp) ?_
                refine AllReadyG.plain rfl rfl (fun K hK => ?_) (AllReadyG.nil)
                ·have HC := Lib.hid (Of_any _ f2 ds v4 (fragE_le v4 [some g7, some g6]) P2_4.out)
                 go_simp
                 refine HC.out.mono ?_
                 rintro e v5 ⟨c4, rfl, hr, hb⟩
                 have Pc4_5 := Lib.hid (FilR.mono (fragJ_E hb HE_4.out) hr)
                 have HE_5 := Lib.hid (he_next HE_4.out hb)
                 have PA6_5 := Lib.hid (PA6_4.out.below hb PA6_4.out.lt)
                 have PA7_5 := Lib.hid (PA7_4.out.below hb PA7_4.out.lt)
                 have Pc2_5 := Lib.hid (fil_next Pc2_4.out hb)
                 have PX_5 := Lib.hid (PX_4.out.call hb)
                 refine hK.out _ _ (InvG.mk PX_5.out.B trivial) (fun _ => ?_)
                 clear hK HC hr hb PX_4 HE_4 P2_4 PA6_4 PA7_4 Pc2_4
                 refine fgA10_124 ?_
                 refine wpAnyG_ready (rs := [5]) (by kernel_rfl) (by simp) ?_
                 refine AllReadyG.plain rfl rfl (fun K hK => ?_) (AllReadyG.nil)
                 ·have HC := Lib.hid (flat_any _ f2 c4 v5 (fragE_le v5 [some g7, some g6]) Pc4_5.out)
                  go_simp
                  refine HC.out.mono ?_
                  rintro e v6 ⟨c5, rfl, hr, hb⟩
                  have Pc5_6 := Lib.hid (FilR.mono (fragJ_E hb HE_5.out) hr)
                  have HE_6 := Lib.hid (he_next HE_5.out hb)
                  have PA6_6 := Lib.hid (PA6_5.out.below hb PA6_5.out.lt)
                  have PA7_6 := Lib.hid (PA7_5.out.below hb PA7_5.out.lt)
                  have Pc2_6 := Lib.hid (fil_next Pc2_5.out hb)
                  have PX_6 := Lib.hid (PX_5.out.call hb)
                  refine hK.out _ _ (InvG.mk PX_6.out.B trivial) (fun _ => ?_)
                  clear hK HC hr hb PX_5 HE_5 PA6_5 PA7_5 Pc2_5 Pc4_5
                  refine fgA10_124 ?_
                  have HL := Lib.hid (show Leaf w9 gF gG cs ds f1 f2 g6 g7 [some g7, some g6] c2 c5 v6 from ⟨⟨PX_6.out.W, PX_6.out.B, Pc2_6.out, Pc5_6.out, ⟨G6.out, G7.out⟩, (fun e => by have h := PN.out; omega), ⟨HB9.out.1.lt, HB9.out.2.lt⟩, ⟨by simp, by simp⟩⟩, ⟨PA6_6.out, PA7_6.out⟩⟩)
                  clear PX_6 Pc2_6 Pc5_6 PA6_6 PA7_6 HE_6
                  refine wpAnyG_ready (rs := [8]) (by kernel_rfl) (by simp) ?_
                  refine AllReadyG.plain rfl rfl (fun K hK => ?_) AllReadyG.nil
                  refine wp_store_any 40 _ _ rfl g6 c2 rfl rfl zFl HL.out.A.1 (by rw [(filR_form HL.out.r2).1]; exact infoRFl) (filR_form HL.out.r2).1 (filR_form HL.out.r2).2 ?_
                  intro y1 hS8 hgr
                  have HL1 := Lib.hid (HL.out.store hS8 hgr)
                  refine hK.out _ _ (InvG.mk HL1.out.B trivial) (fun _ => ?_)
                  clear hK hgr hS8 HL
                  refine fgA10_124 ?_
                  refine wpAnyG_ready (rs := [9]) (by kernel_rfl) (by simp) ?_
                  refine AllReadyG.plain rfl rfl (fun K hK => ?_) AllReadyG.nil
                  refine wp_store_any 40 _ _ rfl g7 c5 rfl rfl zFl HL1.out.A7 (by rw [(filR_form HL1.out.r5).1]; exact infoRFl) (filR_form HL1.out.r5).1 (filR_form HL1.out.r5).2 ?_
                  intro y2 hS9 hgr
                  have HL2 := Lib.hid (HL1.out.store hS9 hgr)
                  refine hK.out _ _ (InvG.mk HL2.out.B trivial) (fun _ => ?_)
                  clear hK hgr hS9 HL1
                  refine fgA10_124 ?_
                  refine wpAnyG_done (by kernel_rfl) ?_ _
                  go_wp2_with fail
                  go_meet
                  exact ⟨g6, g7, c2, c5, rfl, rfl, Lib.hid HL2.out.S, Lib.hid HL2.out.R, Lib.hid HL2.out.W⟩
             ·refine wp_alloc_any 40 rfl zFl zeroRFl ?_
              intro v2 g7 hg hA hb
              have PA7_2 : Hid (Blk v2 g7 zFl) := Lib.hid hA
              have G7 := Lib.hid (Nat.le_trans PX_1.out.W.size hg)
              have HE_2 := Lib.hid (he_new HE_1.out hA hb)
              have P2_2 := Lib.hid (fil_new P2_1.out hb hg)
              have Pc1_2 := Lib.hid (fil_new Pc1_1.out hb hg)
              have PX_2 := Lib.hid (PX_1.out.call hb)
              refine hK.out _ _ (InvG.mk PX_2.out.B trivial) (fun _ => ?_)
              clear hK hg hA hb PX_1 HE_1 P2_1 Pc1_1
              refine fgA10_124 ?_
              refine wpAnyG_ready (rs := [2, 6]) (by kernel_rfl) (by simp) ?_
              refine AllReadyG.plain rfl rfl (fun K hK => ?_) (AllReadyG.plain rfl rfl (fun K hK => ?_) (AllReadyG.nil))
              ·have HC := Lib.hid (flat_any _ f1 c1 v2 (fragE_le v2 [some g7]) Pc1_2.out)
               go_simp
               refine HC.out.mono ?_
               rintro e v3 ⟨c2, rfl, hr, hb⟩
               have Pc2_3 := Lib.hid (FilR.mono (fragJ_E hb HE_2.out) hr)
               have HE_3 := Lib.hid (he_next HE_2.out hb)
               have P2_3 := Lib.hid (fil_next P2_2.out hb)
               have PA7_3 := Lib.hid (PA7_2.out.below hb PA7_2.out.lt)
               have PX_3 := Lib.hid (PX_2.out.call hb)
               refine hK.out _ _ (InvG.mk PX_3.out.B trivial) (fun _ => ?_)
               clear hK HC hr hb PX_2 HE_2 P2_2 Pc1_2 PA7_2
               refine fgA10_124 ?_
               refine wpAnyG_ready (rs := [4, 6]) (by kernel_rfl) (by simp) ?_
               refine AllReadyG.plain rfl rfl (fun K hK => ?_) (AllReadyG.plain rfl rfl (fun K hK => ?_) (AllReadyG.nil))
               ·have HC := Lib.hid (Of_any _ f2 ds v3 (fragE_le v3 [some g7]) P2_3.out)
                go_simp
                refine HC.out.mono ?_
                rintro e v4 ⟨c4, rfl, hr, hb⟩
                have Pc4_4 := Lib.hid (FilR.mono (fragJ_E hb HE_3.out) hr)
                have HE_4 := Lib.hid (he_next HE_3.out hb)
                have PA7_4 := Lib.hid (PA7_3.out.below hb PA7_3.out.lt)
                have Pc2_4 := Lib.hid (fil_next Pc2_3.out hb)
                have PX_4 := Lib.hid (PX_3.out.call hb)
                refine hK.out _ _ (InvG.mk PX_4.out.B trivial) (fun _ => ?_)
                clear hK HC hr hb PX_3 HE_3 P2_3 PA7_3 Pc2_3
                refine fgA10_124 ?_
                refine wpAnyG_ready (rs := [5, 6]) (by kernel_rfl) (by simp) ?_
                refine AllReadyG.plain rfl rfl (fun K hK => ?_) (AllReadyG.plain rfl rfl (fun K hK => ?_) (AllReadyG.nil))
                ·have HC := Lib.hid (flat_any _ f2 c4 v4 (fragE_le v4 [some g7]) Pc4_4.out)
                 go_simp
                 refine HC.out.mono ?_
                 rintro e v5 ⟨c5, rfl, hr, hb⟩
                 have Pc5_5 := Lib.hid (FilR.mono (fragJ_E hb HE_4.out) hr)
                 have HE_5 := Lib.hid (he_next HE_4.out hb)
                 have PA7_5 := Lib.hid (PA7_4.out.below hb PA7_4.out.lt)
                 have Pc2_5 := Lib.hid (fil_next Pc2_4.out hb)
                 have PX_5 := Lib.hid (PX_4.out.call hb)
                 refine hK.out _ _ (InvG.mk PX_5.out.B trivial) (fun _ => ?_)
                 clear hK HC hr hb PX_4 HE_4 PA7_4 Pc2_4 Pc4_4
                 refine fgA10_124 ?_
                 refine wpAnyG_ready (rs := [6]) (by kernel_rfl) (by simp) ?_
                 refine AllReadyG.plain rfl rfl (fun K hK => ?_) (AllReadyG.nil)
                 ·refine wp_alloc_any 40 rfl zFl zeroRFl ?_
                  intro v6 g6 hg hA hb
                  have PA6_6 : Hid (Blk v6 g6 zFl) := Lib.hid hA
                  have G6 := Lib.hid (Nat.le_trans PX_5.out.W.size hg)
                  have HE_6 := Lib.hid (he_new HE_5.out hA hb)
                  have PN := Lib.hid (Nat.lt_of_lt_of_le PA7_5.out.lt hg)
                  have PA7_6 := Lib.hid (PA7_5.out.below hb PA7_5.out.lt)
                  have Pc2_6 := Lib.hid (fil_new Pc2_5.out hb hg)
                  have Pc5_6 := Lib.hid (fil_new Pc5_5.out hb hg)
                  have PX_6 := Lib.hid (PX_5.out.call hb)
                  refine hK.out _ _ (InvG.mk PX_6.out.B trivial) (fun _ => ?_)
                  clear hK hg hA hb PX_5 HE_5 PA7_5 Pc2_5 Pc5_5
                  refine fgA10_124 ?_
                  have HL := Lib.hid (show Leaf w9 gF gG cs ds f1 f2 g6 g7 [some g6, some g7] c2 c5 v6 from ⟨⟨PX_6.out.W, PX_6.out.B, Pc2_6.out, Pc5_6.out, ⟨G6.out, G7.out⟩, (fun e => by have h := PN.out; omega), ⟨HB9.out.1.lt, HB9.out.2.lt⟩, ⟨by simp, by simp⟩⟩, ⟨PA6_6.out, PA7_6.out⟩⟩)
                  clear PX_6 Pc2_6 Pc5_6 PA6_6 PA7_6 HE_6
                  refine wpAnyG_ready (rs := [8]) (by kernel_rfl) (by simp) ?_
                  refine AllReadyG.plain rfl rfl (fun K hK => ?_) AllReadyG.nil
                  refine wp_store_any 40 _ _ rfl g6 c2 rfl rfl zFl HL.out.A.1 (by rw [(filR_form HL.out.r2).1]; exact infoRFl) (filR_form HL.out.r2).1 (filR_form HL.out.r2).2 ?_
                  intro y1 hS8 hgr
                  have HL1 := Lib.hid (HL.out.store hS8 hgr)
                  refine hK.out _ _ (InvG.mk HL1.out.B trivial) (fun _ => ?_)
                  clear hK hgr hS8 HL
                  refine fgA10_124 ?_
                  refine wpAnyG_ready (rs := [9]) (by kernel_rfl) (by simp) ?_
                  refine AllReadyG.plain rfl rfl (fun K hK => ?_) AllReadyG.nil
                  refine wp_store_any 40 _ _ rfl g7 c5 rfl rfl zFl HL1.out.A7 (by rw [(filR_form HL1.out.r5).1]; exact infoRFl) (filR_form HL1.out.r5).1 (filR_form HL1.out.r5).2 ?_
                  intro y2 hS9 hgr
                  have HL2 := Lib.hid (HL1.out.store hS9 hgr)
                  refine hK.out _ _ (InvG.mk HL2.out.B trivial) (fun _ => ?_)
                  clear hK hgr hS9 HL1
                  refine fgA10_124 ?_
                  refine wpAnyG_done (by kernel_rfl) ?_ _
                  go_wp2_with fail
                  go_meet
                  exact ⟨g6, g7, c2, c5, rfl, rfl, Lib.hid HL2.out.S, Lib.hid HL2.out.R, Lib.hid HL2.out.W⟩
                ·refine wp_alloc_any 40 rfl zFl zeroRFl ?_
                 intro v5 g6 hg hA hb
                 have PA6_5 : Hid (Blk v5 g6 zFl) := Lib.hid hA
                 have G6 := Lib.hid (Nat.le_trans PX_4.out.W.size hg)
                 have HE_5 := Lib.hid (he_new HE_4.out hA hb)
                 have PN := Lib.hid (Nat.lt_of_lt_of_le PA7_4.out.lt hg)
                 have PA7_5 := Lib.hid (PA7_4.out.below hb PA7_4.out.lt)
                 have Pc2_5 := Lib.hid (fil_new Pc2_4.out hb hg)
                 have Pc4_5 := Lib.hid (fil_new Pc4_4.out hb hg)
                 have PX_5 := Lib.hid (PX_4.out.call hb)
                 refine hK.out _ _ (InvG.mk PX_5.out.B trivial) (fun _ => ?_)
                 clear hK hg hA hb PX_4 HE_4 PA7_4 Pc2_4 Pc4_4
                 refine fgA10_124 ?_
                 refine wpAnyG_ready (rs := [5]) (by kernel_rfl) (by simp) ?_
                 refine AllReadyG.plain rfl rfl (fun K hK => ?_) (AllReadyG.nil)
                 ·have HC := Lib.hid (flat_any _ f2 c4 v5 (fragE_le v5 [some g6, some g7]) Pc4_5.out)
                  go_simp
                  refine HC.out.mono ?_
                  rintro e v6 ⟨c5, rfl, hr, hb⟩
                  have Pc5_6 := Lib.hid (FilR.mono (fragJ_E hb HE_5.out) hr)
                  have HE_6 := Lib.hid (he_next HE_5.out hb)
                  have PA7_6 := Lib.hid (PA7_5.out.below hb PA7_5.out.lt)
                  have Pc2_6 := Lib.hid (fil_next Pc2_5.out hb)
                  have PA6_6 := Lib.hid (PA6_5.out.below hb PA6_5.out.lt)
                  have PX_6 := Lib.hid (PX_5.out.call hb)
                  refine hK.out _ _ (InvG.mk PX_6.out.B trivial) (fun _ => ?_)
                  clear hK HC hr hb PX_5 HE_5 PA7_5 Pc2_5 Pc4_5 PA6_5
                  refine fgA10_124 ?_
                  have HL := Lib.hid (show Leaf w9 gF gG cs ds f1 f2 g6 g7 [some g6, some g7] c2 c5 v6 from ⟨⟨PX_6.out.W, PX_6.out.B, Pc2_6.out, Pc5_6.out, ⟨G6.out, G7.out⟩, (fun e => by have h := PN.out; omega), ⟨HB9.out.1.lt, HB9.out.2.lt⟩, ⟨by simp, by simp⟩⟩, ⟨PA6_6.out, PA7_6.out⟩⟩)
                  clear PX_6 Pc2_6 Pc5_6 PA6_6 PA7_6 HE_6
                  refine wpAnyG_ready (rs := [8]) (by kernel_rfl) (by simp) ?_
                  refine AllReadyG.plain rfl rfl (fun K hK => ?_) AllReadyG.nil
                  refine wp_store_any 40 _ _ rfl g6 c2 rfl rfl zFl HL.out.A.1 (by rw [(filR_form HL.out.r2).1]; exact infoRFl) (filR_form HL.out.r2).1 (filR_form HL.out.r2).2 ?_
                  intro y1 hS8 hgr
                  have HL1 := Lib.hid (HL.out.store hS8 hgr)
                  refine hK.out _ _ (InvG.mk HL1.out.B trivial) (fun _ => ?_)
                  clear hK hgr hS8 HL
                  refine fgA10_124 ?_
                  refine wpAnyG_ready (rs := [9]) (by kernel_rfl) (by simp) ?_
                  refine AllReadyG.plain rfl rfl (fun K hK => ?_) AllReadyG.nil
                  refine wp_store_any 40 _ _ rfl g7 c5 rfl rfl zFl HL1.out.A7 (by rw [(filR_form HL1.out.r5).1]; exact infoRFl) (filR_form HL1.out.r5).1 (filR_form HL1.out.r5).2 ?_
                  intro y2 hS9 hgr
                  have HL2 := Lib.hid (HL1.out.store hS9 hgr)
                  refine hK.out _ _ (InvG.mk HL2.out.B trivial) (fun _ => ?_)
                  clear hK hgr hS9 HL1
                  refine fgA10_124 ?_
                  refine wpAnyG_done (by kernel_rfl) ?_ _
                  go_wp2_with fail
                  go_meet
                  exact ⟨g6, g7, c2, c5, rfl, rfl, Lib.hid HL2.out.S, Lib.hid HL2.out.R, Lib.hid HL2.out.W⟩
               ·refine wp_alloc_any 40 rfl zFl zeroRFl ?_
                intro v4 g6 hg hA hb
                have PA6_4 : Hid (Blk v4 g6 zFl) := Lib.hid hA
                have G6 := Lib.hid (Nat.le_trans PX_3.out.W.size hg)
                have HE_4 := Lib.hid (he_new HE_3.out hA hb)
                have PN := Lib.hid (Nat.lt_of_lt_of_le PA7_3.out.lt hg)
                have P2_4 := Lib.hid (fil_new P2_3.out hb hg)
                have PA7_4 := Lib.hid (PA7_3.out.below hb PA7_3.out.lt)
                have Pc2_4 := Lib.hid (fil_new Pc2_3.out hb hg)
                have PX_4 := Lib.hid (PX_3.out.call hb)
                refine hK.out _ _ (InvG.mk PX_4.out.B trivial) (fun _ => ?_)
                clear hK hg hA hb PX_3 HE_3 P2_3 PA7_3 Pc2_3
                refine fgA10_124 ?_
                refine wpAnyG_ready (rs := [4]) (by kernel_rfl) (by simp) ?_
                refine AllReadyG.plain rfl rfl (fun K hK => ?_) (AllReadyG.nil)
                ·have HC := Lib.hid (Of_any _ f2 ds v4 (fragE_le v4 [some g6, some g7]) P2_4.out)
                 go_simp
                 refine HC.out.mono ?_
                 rintro e v5 ⟨c4, rfl, hr, hb⟩
                 have Pc4_5 := Lib.hid (FilR.mono (fragJ_E hb HE_4.out) hr)
                 have HE_5 := Lib.hid (he_next HE_4.out hb)
                 have PA7_5 := Lib.hid (PA7_4.out.below hb PA7_4.out.lt)
                 have Pc2_5 := Lib.hid (fil_next Pc2_4.out hb)
                 have PA6_5 := Lib.hid (PA6_4.out.below hb PA6_4.out.lt)
                 have PX_5 := Lib.hid (PX_4.out.call hb)
                 refine hK.out _ _ (InvG.mk PX_5.out.B trivial) (fun _ => ?_)
                 clear hK HC hr hb PX_4 HE_4 P2_4 PA7_4 Pc2_4 PA6_4
                 refine fgA10_124 ?_
                 refine wpAnyG_ready (rs := [5]) (by kernel_rfl) (by simp) ?_
                 refine AllReadyG.plain rfl rfl (fun K hK => ?_) (AllReadyG.nil)
                 ·have HC := Lib.hid (flat_any _ f2 c4 v5 (fragE_le v5 [some g6, some g7]) Pc4_5.out)
                  go_simp
                  refine HC.out.mono ?_
                  rintro e v6 ⟨c5, rfl, hr, hb⟩
                  have Pc5_6 := Lib.hid (FilR.mono (fragJ_E hb HE_5.out) hr)
                  have HE_6 := Lib.hid (he_next HE_5.out hb)
                  have PA7_6 := Lib.hid (PA7_5.out.below hb PA7_5.out.lt)
                  have Pc2_6 := Lib.hid (fil_next Pc2_5.out hb)
                  have PA6_6 := Lib.hid (PA6_5.out.below hb PA6_5.out.lt)
                  have PX_6 := Lib.hid (PX_5.out.call hb)
                  refine hK.out _ _ (InvG.mk PX_6.out.B trivial) (fun _ => ?_)
                  clear hK HC hr hb PX_5 HE_5 PA7_5 Pc2_5 PA6_5 Pc4_5
                  refine fgA10_124 ?_
                  have HL := Lib.hid (show Leaf w9 gF gG cs ds f1 f2 g6 g7 [some g6, some g7] c2 c5 v6 from ⟨⟨PX_6.out.W, PX_6.out.B, Pc2_6.out, Pc5_6.out, ⟨G6.out, G7.out⟩, (fun e => by have h := PN.out; omega), ⟨HB9.out.1.lt, HB9.out.2.lt⟩, ⟨by simp, by simp⟩⟩, ⟨PA6_6.out, PA7_6.out⟩⟩)
                  clear PX_6 Pc2_6 Pc5_6 PA6_6 PA7_6 HE_6
                  refine wpAnyG_ready (rs := [8]) (by kernel_rfl) (by simp) ?_
                  refine AllReadyG.plain rfl rfl (fun K hK => ?_) AllReadyG.nil
                  refine wp_store_any 40 _ _ rfl g6 c2 rfl rfl zFl HL.out.A.1 (by rw [(filR_form HL.out.r2).1]; exact infoRFl) (filR_form HL.out.r2).1 (filR_form HL.out.r2).2 ?_
                  intro y1 hS8 hgr
                  have HL1 := Lib.hid (HL.out.store hS8 hgr)
                  refine hK.out _ _ (InvG.mk HL1.out.B trivial) (fun _ => ?_)
                  clear hK hgr hS8 HL
                  refine fgA10_124 ?_
                  refine wpAnyG_ready (rs := [9]) (by kernel_rfl) (by simp) ?_
                  refine AllReadyG.plain rfl rfl (fun K hK => ?_) AllReadyG.nil
                  refine wp_store_any 40 _ _ rfl g7 c5 rfl rfl zFl HL1.out.A7 (by rw [(filR_form HL1.out.r5).1]; exact infoRFl) (filR_form HL1.out.r5).1 (filR_form HL1.out.r5).2 ?_
                  intro y2 hS9 hgr
                  have HL2 := Lib.hid (HL1.out.store hS9 hgr)
                  refine hK.out _ _ (InvG.mk HL2.out.B trivial) (fun _ => ?_)
                  clear hK hgr hS9 HL1
                  refine fgA10_124 ?_
                  refine wpAnyG_done (by kernel_rfl) ?_ _
                  go_wp2_with fail
                  go_meet
                  exact ⟨g6, g7, c2, c5, rfl, rfl, Lib.hid HL2.out.S, Lib.hid HL2.out.R, Lib.hid HL2.out.W⟩
              ·refine wp_alloc_any 40 rfl zFl zeroRFl ?_
               intro v3 g6 hg hA hb
               have PA6_3 : Hid (Blk v3 g6 zFl) := Lib.hid hA
               have G6 := Lib.hid (Nat.le_trans PX_2.out.W.size hg)
               have HE_3 := Lib.hid (he_new HE_2.out hA hb)
               have PN := Lib.hid (Nat.lt_of_lt_of_le PA7_2.out.lt hg)
               have P2_3 := Lib.hid (fil_new P2_2.out hb hg)
               have Pc1_3 := Lib.hid (fil_new Pc1_2.out hb hg)
               have PA7_3 := Lib.hid (PA7_2.out.below hb PA7_2.out.lt)
               have PX_3 := Lib.hid (PX_2.out.call hb)
               refine hK.out _ _ (InvG.mk PX_3.out.B trivial) (fun _ => ?_)
               clear hK hg hA hb PX_2 HE_2 P2_2 Pc1_2 PA7_2
               refine fgA10_124 ?_
               refine wpAnyG_ready (rs := [2]) (by kernel_rfl) (by simp) ?_
               refine AllReadyG.plain rfl rfl (fun K hK => ?_) (AllReadyG.nil)
               ·have HC := Lib.hid (flat_any _ f1 c1 v3 (fragE_le v3 [some g6, some g7]) Pc1_3.out)
                go_simp
                refine HC.out.mono ?_
                rintro e v4 ⟨c2, rfl, hr, hb⟩
                have Pc2_4 := Lib.hid (FilR.mono (fragJ_E hb HE_3.out) hr)
                have HE_4 := Lib.hid (he_next HE_3.out hb)
                have P2_4 := Lib.hid (fil_next P2_3.out hb)
                have PA7_4 := Lib.hid (PA7_3.out.below hb PA7_3.out.lt)
                have PA6_4 := Lib.hid (PA6_3.out.below hb PA6_3.out.lt)
                have PX_4 := Lib.hid (PX_3.out.call hb)
                refine hK.out _ _ (InvG.mk PX_4.out.B trivial) (fun _ => ?_)
                clear hK HC hr hb PX_3 HE_3 P2_3 Pc1_3 PA7_3 PA6_3
                refine fgA10_124 ?_
                refine wpAnyG_ready (rs := [4]) (by kernel_rfl) (by simp) ?_
                refine AllReadyG.plain rfl rfl (fun K hK => ?_) (AllReadyG.nil)
                ·have HC := Lib.hid (Of_any _ f2 ds v4 (fragE_le v4 [some g6, some g7]) P2_4.out)
                 go_simp
                 refine HC.out.mono ?_
                 rintro e v5 ⟨c4, rfl, hr, hb⟩
                 have Pc4_5 := Lib.hid (FilR.mono (fragJ_E hb HE_4.out) hr)
                 have HE_5 := Lib.hid (he_next HE_4.out hb)
                 have PA7_5 := Lib.hid (PA7_4.out.below hb PA7_4.out.lt)
                 have PA6_5 := Lib.hid (PA6_4.out.below hb PA6_4.out.lt)
                 have Pc2_5 := Lib.hid (fil_next Pc2_4.out hb)
                 have PX_5 := Lib.hid (PX_4.out.call hb)
                 refine hK.out _ _ (InvG.mk PX_5.out.B trivial) (fun _ => ?_)
                 clear hK HC hr hb PX_4 HE_4 P2_4 PA7_4 PA6_4 Pc2_4
                 refine fgA10_124 ?_
                 refine wpAnyG_ready (rs := [5]) (by kernel_rfl) (by simp) ?_
                 refine AllReadyG.plain rfl rfl (fun K hK => ?_) (AllReadyG.nil)
                 ·have HC := Lib.hid (flat_any _ f2 c4 v5 (fragE_le v5 [some g6, some g7]) Pc4_5.out)
                  go_simp
                  refine HC.out.mono ?_
                  rintro e v6 ⟨c5, rfl, hr, hb⟩
                  have Pc5_6 := Lib.hid (FilR.mono (fragJ_E hb HE_5.out) hr)
                  have HE_6 := Lib.hid (he_next HE_5.out hb)
                  have PA7_6 := Lib.hid (PA7_5.out.below hb PA7_5.out.lt)
                  have PA6_6 := Lib.hid (PA6_5.out.below hb PA6_5.out.lt)
                  have Pc2_6 := Lib.hid (fil_next Pc2_5.out hb)
                  have PX_6 := Lib.hid (PX_5.out.call hb)
                  refine hK.out _ _ (InvG.mk PX_6.out.B trivial) (fun _ => ?_)
                  clear hK HC hr hb PX_5 HE_5 PA7_5 PA6_5 Pc2_5 Pc4_5
                  refine fgA10_124 ?_
                  have HL := Lib.hid (show Leaf w9 gF gG cs ds f1 f2 g6 g7 [some g6, some g7] c2 c5 v6 from ⟨⟨PX_6.out.W, PX_6.out.B, Pc2_6.out, Pc5_6.out, ⟨G6.out, G7.out⟩, (fun e => by have h := PN.out; omega), ⟨HB9.out.1.lt, HB9.out.2.lt⟩, ⟨by simp, by simp⟩⟩, ⟨PA6_6.out, PA7_6.out⟩⟩)
                  clear PX_6 Pc2_6 Pc5_6 PA6_6 PA7_6 HE_6
                  refine wpAnyG_ready (rs := [8]) (by kernel_rfl) (by simp) ?_
                  refine AllReadyG.plain rfl rfl (fun K hK => ?_) AllReadyG.nil
                  refine wp_store_any 40 _ _ rfl g6 c2 rfl rfl zFl HL.out.A.1 (by rw [(filR_form HL.out.r2).1]; exact infoRFl) (filR_form HL.out.r2).1 (filR_form HL.out.r2).2 ?_
                  intro y1 hS8 hgr
                  have HL1 := Lib.hid (HL.out.store hS8 hgr)
                  refine hK.out _ _ (InvG.mk HL1.out.B trivial) (fun _ => ?_)
                  clear hK hgr hS8 HL
                  refine fgA10_124 ?_
                  refine wpAnyG_ready (rs := [9]) (by kernel_rfl) (by simp) ?_
                  refine AllReadyG.plain rfl rfl (fun K hK => ?_) AllReadyG.nil
                  refine wp_store_any 40 _ _ rfl g7 c5 rfl rfl zFl HL1.out.A7 (by rw [(filR_form HL1.out.r5).1]; exact infoRFl) (filR_form HL1.out.r5).1 (filR_form HL1.out.r5).2 ?_
                  intro y2 hS9 hgr
                  have HL2 := Lib.hid (HL1.out.store hS9 hgr)
                  refine hK.out _ _ (InvG.mk HL2.out.B trivial) (fun _ => ?_)
                  clear hK hgr hS9 HL1
                  refine fgA10_124 ?_
                  refine wpAnyG_done (by kernel_rfl) ?_ _
                  go_wp2_with fail
                  go_meet
                  exact ⟨g6, g7, c2, c5, rfl, rfl, Lib.hid HL2.out.S, Lib.hid HL2.out.R, Lib.hid HL2.out.W⟩
            ·refine wp_alloc_any 40 rfl zFl zeroRFl ?_
             intro v1 g6 hg hA hb
             have PA6_1 : Hid (Blk v1 g6 zFl) := Lib.hid hA
             have G6 := Lib.hid (Nat.le_trans PX_0.out.W.size hg)
             have HE_1 := Lib.hid (he_new HE_0.out hA hb)
             have P1_1 := Lib.hid (fil_new P1_0.out hb hg)
             have P2_1 := Lib.hid (fil_new P2_0.out hb hg)
             have PX_1 := Lib.hid (PX_0.out.call hb)
             refine hK.out _ _ (InvG.mk PX_1.out.B trivial) (fun _ => ?_)
             clear hK hg hA hb PX_0 HE_0 P1_0 P2_0
             refine fgA10_124 ?_
             refine wpAnyG_ready (rs := [1, 7]) (by kernel_rfl) (by simp) ?_
             refine AllReadyG.plain rfl rfl (fun K hK => ?_) (AllReadyG.plain rfl rfl (fun K hK => ?_) (AllReadyG.nil))
             ·have HC := Lib.hid (Of_any _ f1 cs v1 (fragE_le v1 [some g6]) P1_1.out)
              go_simp
              refine HC.out.mono ?_
              rintro e v2 ⟨c1, rfl, hr, hb⟩
              have Pc1_2 := Lib.hid (FilR.mono (fragJ_E hb HE_1.out) hr)
              have HE_2 := Lib.hid (he_next HE_1.out hb)
              have P2_2 := Lib.hid (fil_next P2_1.out hb)
              have PA6_2 := Lib.hid (PA6_1.out.below hb PA6_1.out.lt)
              have PX_2 := Lib.hid (PX_1.out.call hb)
              refine hK.out _ _ (InvG.mk PX_2.out.B trivial) (fun _ => ?_)
              clear hK HC hr hb PX_1 HE_1 P1_1 P2_1 PA6_1
              refine fgA10_124 ?_
              refine wpAnyG_ready (rs := [2, 7]) (by kernel_rfl) (by simp) ?_
              refine AllReadyG.plain rfl rfl (fun K hK => ?_) (AllReadyG.plain rfl rfl (fun K hK => ?_) (AllReadyG.nil))
              ·have HC := Lib.hid (flat_any _ f1 c1 v2 (fragE_le v2 [some g6]) Pc1_2.out)
               go_simp
               refine HC.out.mono ?_
               rintro e v3 ⟨c2, rfl, hr, hb⟩
               have Pc2_3 := Lib.hid (FilR.mono (fragJ_E hb HE_2.out) hr)
               have HE_3 := Lib.hid (he_next HE_2.out hb)
               have P2_3 := Lib.hid (fil_next P2_2.out hb)
               have PA6_3 := Lib.hid (PA6_2.out.below hb PA6_2.out.lt)
               have PX_3 := Lib.hid (PX_2.out.call hb)
               refine hK.out _ _ (InvG.mk PX_3.out.B trivial) (fun _ => ?_)
               clear hK HC hr hb PX_2 HE_2 P2_2 PA6_2 Pc1_2
               refine fgA10_124 ?_
               refine wpAnyG_ready (rs := [4, 7]) (by kernel_rfl) (by simp) ?_
               refine AllReadyG.plain rfl rfl (fun K hK => ?_) (AllReadyG.plain rfl rfl (fun K hK => ?_) (AllReadyG.nil))
               ·have HC := Lib.hid (Of_any _ f2 ds v3 (fragE_le v3 [some g6]) P2_3.out)
                go_simp
                refine HC.out.mono ?_
                rintro e v4 ⟨c4, rfl, hr, hb⟩
                have Pc4_4 := Lib.hid (FilR.mono (fragJ_E hb HE_3.out) hr)
                have HE_4 := Lib.hid (he_next HE_3.out hb)
                have PA6_4 := Lib.hid (PA6_3.out.below hb PA6_3.out.lt)
                have Pc2_4 := Lib.hid (fil_next Pc2_3.out hb)
                have PX_4 := Lib.hid (PX_3.out.call hb)
                refine hK.out _ _ (InvG.mk PX_4.out.B trivial) (fun _ => ?_)
                clear hK HC hr hb PX_3 HE_3 P2_3 PA6_3 Pc2_3
                refine fgA10_124 ?_
                refine wpAnyG_ready (rs := [5, 7]) (by kernel_rfl) (by simp) ?_
                refine AllReadyG.plain rfl rfl (fun K hK => ?_) (AllReadyG.plain rfl rfl (fun K hK => ?_) (AllReadyG.nil))
                ·have HC := Lib.hid (flat_any _ f2 c4 v4 (fragE_le v4 [some g6]) Pc4_4.out)
                 go_simp
                 refine HC.out.mono ?_
                 rintro e v5 ⟨c5, rfl, hr, hb⟩
                 have Pc5_5 := Lib.hid (FilR.mono (fragJ_E hb HE_4.out) hr)
                 have HE_5 := Lib.hid (he_next HE_4.out hb)
                 have PA6_5 := Lib.hid (PA6_4.out.below hb PA6_4.out.lt)
                 have Pc2_5 := Lib.hid (fil_next Pc2_4.out hb)
                 have PX_5 := Lib.hid (PX_4.out.call hb)
                 refine hK.out _ _ (InvG.mk PX_5.out.B trivial) (fun _ => ?_)
                 clear hK HC hr hb PX_4 HE_4 PA6_4 Pc2_4 Pc4_4
                 refine fgA10_124 ?_
                 refine wpAnyG_ready (rs := [7]) (by kernel_rfl) (by simp) ?_
                 refine AllReadyG.plain rfl rfl (fun K hK => ?_) (AllReadyG.nil)
                 ·refine wp_alloc_any 40 rfl zFl zeroRFl ?_
                  intro v6 g7 hg hA hb
                  have PA7_6 : Hid (Blk v6 g7 zFl) := Lib.hid hA
                  have G7 := Lib.hid (Nat.le_trans PX_5.out.W.size hg)
                  have HE_6 := Lib.hid (he_new HE_5.out hA hb)
                  have PN := Lib.hid (Nat.lt_of_lt_of_le PA6_5.out.lt hg)
                  have PA6_6 := Lib.hid (PA6_5.out.below hb PA6_5.out.lt)
                  have Pc2_6 := Lib.hid (fil_new Pc2_5.out hb hg)
                  have Pc5_6 := Lib.hid (fil_new Pc5_5.out hb hg)
                  have PX_6 := Lib.hid (PX_5.out.call hb)
                  refine hK.out _ _ (InvG.mk PX_6.out.B trivial) (fun _ => ?_)
                  clear hK hg hA hb PX_5 HE_5 PA6_5 Pc2_5 Pc5_5
                  refine fgA10_124 ?_
                  have HL := Lib.hid (show Leaf w9 gF gG cs ds f1 f2 g6 g7 [some g7, some g6] c2 c5 v6 from ⟨⟨PX_6.out.W, PX_6.out.B, Pc2_6.out, Pc5_6.out, ⟨G6.out, G7.out⟩, (fun e => by have h := PN.out; omega), ⟨HB9.out.1.lt, HB9.out.2.lt⟩, ⟨by simp, by simp⟩⟩, ⟨PA6_6.out, PA7_6.out⟩⟩)
                  clear PX_6 Pc2_6 Pc5_6 PA6_6 PA7_6 HE_6
                  refine wpAnyG_ready (rs := [8]) (by kernel_rfl) (by simp) ?_
                  refine AllReadyG.plain rfl rfl (fun K hK => ?_) AllReadyG.nil
                  refine wp_store_any 40 _ _ rfl g6 c2 rfl rfl zFl HL.out.A.1 (by rw [(filR_form HL.out.r2).1]; exact infoRFl) (filR_form HL.out.r2).1 (filR_form HL.out.r2).2 ?_
                  intro y1 hS8 hgr
                  have HL1 := Lib.hid (HL.out.store hS8 hgr)
                  refine hK.out _ _ (InvG.mk HL1.out.B trivial) (fun _ => ?_)
                  clear hK hgr hS8 HL
                  refine fgA10_124 ?_
                  refine wpAnyG_ready (rs := [9]) (by kernel_rfl) (by simp) ?_
                  refine AllReadyG.plain rfl rfl (fun K hK => ?_) AllReadyG.nil
                  refine wp_store_any 40 _ _ rfl g7 c5 rfl rfl zFl HL1.out.A7 (by rw [(filR_form HL1.out.r5).1]; exact infoRFl) (filR_form HL1.out.r5).1 (filR_form HL1.out.r5).2 ?_
                  intro y2 hS9 hgr
                  have HL2 := Lib.hid (HL1.out.store hS9 hgr)
                  refine hK.out _ _ (InvG.mk HL2.out.B trivial) (fun _ => ?_)
                  clear hK hgr hS9 HL1
                  refine fgA10_124 ?_
                  refine wpAnyG_done (by kernel_rfl) ?_ _
                  go_wp2_with fail
                  go_meet
                  exact ⟨g6, g7, c2, c5, rfl, rfl, Lib.hid HL2.out.S, Lib.hid HL2.out.R, Lib.hid HL2.out.W⟩
                ·refine wp_alloc_any 40 rfl zFl zeroRFl ?_
                 intro v5 g7 hg hA hb
                 have PA7_5 : Hid (Blk v5 g7 zFl) := Lib.hid hA
                 have G7 := Lib.hid (Nat.le_trans PX_4.out.W.size hg)
                 have HE_5 := Lib.hid (he_new HE_4.out hA hb)
                 have PN := Lib.hid (Nat.lt_of_lt_of_le PA6_4.out.lt hg)
                 have PA6_5 := Lib.hid (PA6_4.out.below hb PA6_4.out.lt)
                 have Pc2_5 := Lib.hid (fil_new Pc2_4.out hb hg)
                 have Pc4_5 := Lib.hid (fil_new Pc4_4.out hb hg)
                 have PX_5 := Lib.hid (PX_4.out.call hb)
                 refine hK.out _ _ (InvG.mk PX_5.out.B trivial) (fun _ => ?_)
                 clear hK hg hA hb PX_4 HE_4 PA6_4 Pc2_4 Pc4_4
                 refine fgA10_124 ?_
                 refine wpAnyG_ready (rs := [5]) (by kernel_rfl) (by simp) ?_
                 refine AllReadyG.plain rfl rfl (fun K hK => ?_) (AllReadyG.nil)
                 ·have HC := Lib.hid (flat_any _ f2 c4 v5 (fragE_le v5 [some g7, some g6]) Pc4_5.out)
                  go_simp
                  refine HC.out.mono ?_
                  rintro e v6 ⟨c5, rfl, hr, hb⟩
                  have Pc5_6 := Lib.hid (FilR.mono (fragJ_E hb HE_5.out) hr)
                  have HE_6 := Lib.hid (he_next HE_5.out hb)
                  have PA6_6 := Lib.hid (PA6_5.out.below hb PA6_5.out.lt)
                  have Pc2_6 := Lib.hid (fil_next Pc2_5.out hb)
                  have PA7_6 := Lib.hid (PA7_5.out.below hb PA7_5.out.lt)
                  have PX_6 := Lib.hid (PX_5.out.call hb)
                  refine hK.out _ _ (InvG.mk PX_6.out.B trivial) (fun _ => ?_)
                  clear hK HC hr hb PX_5 HE_5 PA6_5 Pc2_5 Pc4_5 PA7_5
                  refine fgA10_124 ?_
                  have HL := Lib.hid (show Leaf w9 gF gG cs ds f1 f2 g6 g7 [some g7, some g6] c2 c5 v6 from ⟨⟨PX_6.out.W, PX_6.out.B, Pc2_6.out, Pc5_6.out, ⟨G6.out, G7.out⟩, (fun e => by have h := PN.out; omega), ⟨HB9.out.1.lt, HB9.out.2.lt⟩, ⟨by simp, by simp⟩⟩, ⟨PA6_6.out, PA7_6.out⟩⟩)
                  clear PX_6 Pc2_6 Pc5_6 PA6_6 PA7_6 HE_6
                  refine wpAnyG_ready (rs := [8]) (by kernel_rfl) (by simp) ?_
                  refine AllReadyG.plain rfl rfl (fun K hK => ?_) AllReadyG.nil
                  refine wp_store_any 40 _ _ rfl g6 c2 rfl rfl zFl HL.out.A.1 (by rw [(filR_form HL.out.r2).1]; exact infoRFl) (filR_form HL.out.r2).1 (filR_form HL.out.r2).2 ?_
                  intro y1 hS8 hgr
                  have HL1 := Lib.hid (HL.out.store hS8 hgr)
                  refine hK.out _ _ (InvG.mk HL1.out.B trivial) (fun _ => ?_)
                  clear hK hgr hS8 HL
                  refine fgA10_124 ?_
                  refine wpAnyG_ready (rs := [9]) (by kernel_rfl) (by simp) ?_
                  refine AllReadyG.plain rfl rfl (fun K hK => ?_) AllReadyG.nil
                  refine wp_store_any 40 _ _ rfl g7 c5 rfl rfl zFl HL1.out.A7 (by rw [(filR_form HL1.out.r5).1]; exact infoRFl) (filR_form HL1.out.r5).1 (filR_form HL1.out.r5).2 ?_
                  intro y2 hS9 hgr
                  have HL2 := Lib.hid (HL1.out.store hS9 hgr)
                  refine hK.out _ _ (InvG.mk HL2.out.B trivial) (fun _ => ?_)
                  clear hK hgr hS9 HL1
                  refine fgA10_124 ?_
                  refine wpAnyG_done (by kernel_rfl) ?_ _
                  go_wp2_with fail
                  go_meet
                  exact ⟨g6, g7, c2, c5, rfl, rfl, Lib.hid HL2.out.S, Lib.hid HL2.out.R, Lib.hid HL2.out.W⟩
               ·refine wp_alloc_any 40 rfl zFl zeroRFl ?_
                intro v4 g7 hg hA hb
                have PA7_4 : Hid (Blk v4 g7 zFl) := Lib.hid hA
                have G7 := Lib.hid (Nat.le_trans PX_3.out.W.size hg)
                have HE_4 := Lib.hid (he_new HE_3.out hA hb)
                have PN := Lib.hid (Nat.lt_of_lt_of_le PA6_3.out.lt hg)
                have P2_4 := Lib.hid (fil_new P2_3.out hb hg)
                have PA6_4 := Lib.hid (PA6_3.out.below hb PA6_3.out.lt)
                have Pc2_4 := Lib.hid (fil_new Pc2_3.out hb hg)
                have PX_4 := Lib.hid (PX_3.out.call hb)
                refine hK.out _ _ (InvG.mk PX_4.out.B trivial) (fun _ => ?_)
                clear hK hg hA hb PX_3 HE_3 P2_3 PA6_3 Pc2_3
                refine fgA10_124 ?_
                refine wpAnyG_ready (rs := [4]) (by kernel_rfl) (by simp) ?_
                refine AllReadyG.plain rfl rfl (fun K hK => ?_) (AllReadyG.nil)
                ·have HC := Lib.hid (Of_any _ f2 ds v4 (fragE_le v4 [some g7, some g6]) P2_4.out)
                 go_simp
                 refine HC.out.mono ?_
                 rintro e v5 ⟨c4, rfl, hr, hb⟩
                 have Pc4_5 := Lib.hid (FilR.mono (fragJ_E hb HE_4.out) hr)
                 have HE_5 := Lib.hid (he_next HE_4.out hb)
                 have PA6_5 := Lib.hid (PA6_4.out.below hb PA6_4.out.lt)
                 have Pc2_5 := Lib.hid (fil_next Pc2_4.out hb)
                 have PA7_5 := Lib.hid (PA7_4.out.below hb PA7_4.out.lt)
                 have PX_5 := Lib.hid (PX_4.out.call hb)
                 refine hK.out _ _ (InvG.mk PX_5.out.B trivial) (fun _ => ?_)
                 clear hK HC hr hb PX_4 HE_4 P2_4 PA6_4 Pc2_4 PA7_4
                 refine fgA10_124 ?_
                 refine wpAnyG_ready (rs := [5]) (by kernel_rfl) (by simp) ?_
                 refine AllReadyG.plain rfl rfl (fun K hK => ?_) (AllReadyG.nil)
                 ·have HC := Lib.hid (flat_any _ f2 c4 v5 (fragE_le v5 [some g7, some g6]) Pc4_5.out)
                  go_simp
                  refine HC.out.mono ?_
                  rintro e v6 ⟨c5, rfl, hr, hb⟩
                  have Pc5_6 := Lib.hid (FilR.mono (fragJ_E hb HE_5.out) hr)
                  have HE_6 := Lib.hid (he_next HE_5.out hb)
                  have PA6_6 := Lib.hid (PA6_5.out.below hb PA6_5.out.lt)
                  have Pc2_6 := Lib.hid (fil_next Pc2_5.out hb)
                  have PA7_6 := Lib.hid (PA7_5.out.below hb PA7_5.out.lt)
                  have PX_6 := Lib.hid (PX_5.out.call hb)
                  refine hK.out _ _ (InvG.mk PX_6.out.B trivial) (fun _ => ?_)
                  clear hK HC hr hb PX_5 HE_5 PA6_5 Pc2_5 PA7_5 Pc4_5
                  refine fgA10_124 ?_
                  have HL := Lib.hid (show Leaf w9 gF gG cs ds f1 f2 g6 g7 [some g7, some g6] c2 c5 v6 from ⟨⟨PX_6.out.W, PX_6.out.B, Pc2_6.out, Pc5_6.out, ⟨G6.out, G7.out⟩, (fun e => by have h := PN.out; omega), ⟨HB9.out.1.lt, HB9.out.2.lt⟩, ⟨by simp, by simp⟩⟩, ⟨PA6_6.out, PA7_6.out⟩⟩)
                  clear PX_6 Pc2_6 Pc5_6 PA6_6 PA7_6 HE_6
                  refine wpAnyG_ready (rs := [8]) (by kernel_rfl) (by simp) ?_
                  refine AllReadyG.plain rfl rfl (fun K hK => ?_) AllReadyG.nil
                  refine wp_store_any 40 _ _ rfl g6 c2 rfl rfl zFl HL.out.A.1 (by rw [(filR_form HL.out.r2).1]; exact infoRFl) (filR_form HL.out.r2).1 (filR_form HL.out.r2).2 ?_
                  intro y1 hS8 hgr
                  have HL1 := Lib.hid (HL.out.store hS8 hgr)
                  refine hK.out _ _ (InvG.mk HL1.out.B trivial) (fun _ => ?_)
                  clear hK hgr hS8 HL
                  refine fgA10_124 ?_
                  refine wpAnyG_ready (rs := [9]) (by kernel_rfl) (by simp) ?_
                  refine AllReadyG.plain rfl rfl (fun K hK => ?_) AllReadyG.nil
                  refine wp_store_any 40 _ _ rfl g7 c5 rfl rfl zFl HL1.out.A7 (by rw [(filR_form HL1.out.r5).1]; exact infoRFl) (filR_form HL1.out.r5).1 (filR_form HL1.out.r5).2 ?_
                  intro y2 hS9 hgr
                  have HL2 := Lib.hid (HL1.out.store hS9 hgr)
                  refine hK.out _ _ (InvG.mk HL2.out.B trivial) (fun _ => ?_)
                  clear hK hgr hS9 HL1
                  refine fgA10_124 ?_
                  refine wpAnyG_done (by kernel_rfl) ?_ _
                  go_wp2_with fail
                  go_meet
                  exact ⟨g6, g7, c2, c5, rfl, rfl, Lib.hid HL2.out.S, Lib.hid HL2.out.R, Lib.hid HL2.out.W⟩
              ·refine wp_alloc_any 40 rfl zFl zeroRFl ?_
               intro v3 g7 hg hA hb
               have PA7_3 : Hid (Blk v3 g7 zFl) := Lib.hid hA
               have G7 := Lib.hid (Nat.le_trans PX_2.out.W.size hg)
               have HE_3 := Lib.hid (he_new HE_2.out hA hb)
               have PN := Lib.hid (Nat.lt_of_lt_of_le PA6_2.out.lt hg)
               have P2_3 := Lib.hid (fil_new P2_2.out hb hg)
               have PA6_3 := Lib.hid (PA6_2.out.below hb PA6_2.out.lt)
               have Pc1_3 := Lib.hid (fil_new Pc1_2.out hb hg)
               have PX_3 := Lib.hid (PX_2.out.call hb)
               refine hK.out _ _ (InvG.mk PX_3.out.B trivial) (fun _ => ?_)
               clear hK hg hA hb PX_2 HE_2 P2_2 PA6_2 Pc1_2
               refine fgA10_124 ?_
               refine wpAnyG_ready (rs := [2]) (by kernel_rfl) (by simp) ?_
               refine AllReadyG.plain rfl rfl (fun K hK => ?_) (AllReadyG.nil)
               ·have HC := Lib.hid (flat_any _ f1 c1 v3 (fragE_le v3 [some g7, some g6]) Pc1_3.out)
                go_simp
                refine HC.out.mono ?_
                rintro e v4 ⟨c2, rfl, hr, hb⟩
                have Pc2_4 := Lib.hid (FilR.mono (fragJ_E hb HE_3.out) hr)
                have HE_4 := Lib.hid (he_next HE_3.out hb)
                have P2_4 := Lib.hid (fil_next P2_3.out hb)
                have PA6_4 := Lib.hid (PA6_3.out.below hb PA6_3.out.lt)
                have PA7_4 := Lib.hid (PA7_3.out.below hb PA7_3.out.lt)
                have PX_4 := Lib.hid (PX_3.out.call hb)
                refine hK.out _ _ (InvG.mk PX_4.out.B trivial) (fun _ => ?_)
                clear hK HC hr hb PX_3 HE_3 P2_3 PA6_3 Pc1_3 PA7_3
                refine fgA10_124 ?_
                refine wpAnyG_ready (rs := [4]) (by kernel_rfl) (by simp) ?_
                refine AllReadyG.plain rfl rfl (fun K hK => ?_) (AllReadyG.nil)
                ·have HC := Lib.hid (Of_any _ f2 ds v4 (fragE_le v4 [some g7, some g6]) P2_4.out)
                 go_simp
                 refine HC.out.mono ?_
                 rintro e v5 ⟨c4, rfl, hr, hb⟩
                 have Pc4_5 := Lib.hid (FilR.mono (fragJ_E hb HE_4.out) hr)
                 have HE_5 := Lib.hid (he_next HE_4.out hb)
                 have PA6_5 := Lib.hid (PA6_4.out.below hb PA6_4.out.lt)
                 have PA7_5 := Lib.hid (PA7_4.out.below hb PA7_4.out.lt)
                 have Pc2_5 := Lib.hid (fil_next Pc2_4.out hb)
                 have PX_5 := Lib.hid (PX_4.out.call hb)
                 refine hK.out _ _ (InvG.mk PX_5.out.B trivial) (fun _ => ?_)
                 clear hK HC hr hb PX_4 HE_4 P2_4 PA6_4 PA7_4 Pc2_4
                 refine fgA10_124 ?_
                 refine wpAnyG_ready (rs := [5]) (by kernel_rfl) (by simp) ?_
                 refine AllReadyG.plain rfl rfl (fun K hK => ?_) (AllReadyG.nil)
                 ·have HC := Lib.hid (flat_any _ f2 c4 v5 (fragE_le v5 [some g7, some g6]) Pc4_5.out)
                  go_simp
                  refine HC.out.mono ?_
                  rintro e v6 ⟨c5, rfl, hr, hb⟩
                  have Pc5_6 := Lib.hid (FilR.mono (fragJ_E hb HE_5.out) hr)
                  have HE_6 := Lib.hid (he_next HE_5.out hb)
                  have PA6_6 := Lib.hid (PA6_5.out.below hb PA6_5.out.lt)
                  have PA7_6 := Lib.hid (PA7_5.out.below hb PA7_5.out.lt)
                  have Pc2_6 := Lib.hid (fil_next Pc2_5.out hb)
                  have PX_6 := Lib.hid (PX_5.out.call hb)
                  refine hK.out _ _ (InvG.mk PX_6.out.B trivial) (fun _ => ?_)
                  clear hK HC hr hb PX_5 HE_5 PA6_5 PA7_5 Pc2_5 Pc4_5
                  refine fgA10_124 ?_
                  have HL := Lib.hid (show Leaf w9 gF gG cs ds f1 f2 g6 g7 [some g7, some g6] c2 c5 v6 from ⟨⟨PX_6.out.W, PX_6.out.B, Pc2_6.out, Pc5_6.out, ⟨G6.out, G7.out⟩, (fun e => by have h := PN.out; omega), ⟨HB9.out.1.lt, HB9.out.2.lt⟩, ⟨by simp, by simp⟩⟩, ⟨PA6_6.out, PA7_6.out⟩⟩)
                  clear PX_6 Pc2_6 Pc5_6 PA6_6 PA7_6 HE_6
                  refine wpAnyG_ready (rs := [8]) (by kernel_rfl) (by simp) ?_
                  refine AllReadyG.plain rfl rfl (fun K hK => ?_) AllReadyG.nil
                  refine wp_store_any 40 _ _ rfl g6 c2 rfl rfl zFl HL.out.A.1 (by rw [(filR_form HL.out.r2).1]; exact infoRFl) (filR_form HL.out.r2).1 (filR_form HL.out.r2).2 ?_
                  intro y1 hS8 hgr
                  have HL1 := Lib.hid (HL.out.store hS8 hgr)
                  refine hK.out _ _ (InvG.mk HL1.out.B trivial) (fun _ => ?_)
                  clear hK hgr hS8 HL
                  refine fgA10_124 ?_
                  refine wpAnyG_ready (rs := [9]) (by kernel_rfl) (by simp) ?_
                  refine AllReadyG.plain rfl rfl (fun K hK => ?_) AllReadyG.nil
                  refine wp_store_any 40 _ _ rfl g7 c5 rfl rfl zFl HL1.out.A7 (by rw [(filR_form HL1.out.r5).1]; exact infoRFl) (filR_form HL1.out.r5).1 (filR_form HL1.out.r5).2 ?_
                  intro y2 hS9 hgr
                  have HL2 := Lib.hid (HL1.out.store hS9 hgr)
                  refine hK.out _ _ (InvG.mk HL2.out.B trivial) (fun _ => ?_)
                  clear hK hgr hS9 HL1
                  refine fgA10_124 ?_
                  refine wpAnyG_done (by kernel_rfl) ?_ _
                  go_wp2_with fail
                  go_meet
                  exact ⟨g6, g7, c2, c5, rfl, rfl, Lib.hid HL2.out.S, Lib.hid HL2.out.R, Lib.hid HL2.out.W⟩
             ·refine wp_alloc_any 40 rfl zFl zeroRFl ?_
              intro v2 g7 hg hA hb
              have PA7_2 : Hid (Blk v2 g7 zFl) := Lib.hid hA
              have G7 := Lib.hid (Nat.le_trans PX_1.out.W.size hg)
              have HE_2 := Lib.hid (he_new HE_1.out hA hb)
              have PN := Lib.hid (Nat.lt_of_lt_of_le PA6_1.out.lt hg)
              have P1_2 := Lib.hid (fil_new P1_1.out hb hg)
              have P2_2 := Lib.hid (fil_new P2_1.out hb hg)
              have PA6_2 := Lib.hid (PA6_1.out.below hb PA6_1.out.lt)
              have PX_2 := Lib.hid (PX_1.out.call hb)
              refine hK.out _ _ (InvG.mk PX_2.out.B trivial) (fun _ => ?_)
              clear hK hg hA hb PX_1 HE_1 P1_1 P2_1 PA6_1
              refine fgA10_124 ?_
              refine wpAnyG_ready (rs := [1]) (by kernel_rfl) (by simp) ?_
              refine AllReadyG.plain rfl rfl (fun K hK => ?_) (AllReadyG.nil)
              ·have HC := Lib.hid (Of_any _ f1 cs v2 (fragE_le v2 [some g7, some g6]) P1_2.out)
               go_simp
               refine HC.out.mono ?_
               rintro e v3 ⟨c1, rfl, hr, hb⟩
               have Pc1_3 := Lib.hid (FilR.mono (fragJ_E hb HE_2.out) hr)
               have HE_3 := Lib.hid (he_next HE_2.out hb)
               have P2_3 := Lib.hid (fil_next P2_2.out hb)
               have PA6_3 := Lib.hid (PA6_2.out.below hb PA6_2.out.lt)
               have PA7_3 := Lib.hid (PA7_2.out.below hb PA7_2.out.lt)
               have PX_3 := Lib.hid (PX_2.out.call hb)
               refine hK.out _ _ (InvG.mk PX_3.out.B trivial) (fun _ => ?_)
               clear hK HC hr hb PX_2 HE_2 P1_2 P2_2 PA6_2 PA7_2
               refine fgA10_124 ?_
               refine wpAnyG_ready (rs := [2]) (by kernel_rfl) (by simp) ?_
               refine AllReadyG.plain rfl rfl (fun K hK => ?_) (AllReadyG.nil)
               ·have HC := Lib.hid (flat_any _ f1 c1 v3 (fragE_le v3 [some g7, some g6]) Pc1_3.out)
                go_simp
                refine HC.out.mono ?_
                rintro e v4 ⟨c2, rfl, hr, hb⟩
                have Pc2_4 := Lib.hid (FilR.mono (fragJ_E hb HE_3.out) hr)
                have HE_4 := Lib.hid (he_next HE_3.out hb)
                have P2_4 := Lib.hid (fil_next P2_3.out hb)
                have PA6_4 := Lib.hid (PA6_3.out.below hb PA6_3.out.lt)
                have PA7_4 := Lib.hid (PA7_3.out.below hb PA7_3.out.lt)
                have PX_4 := Lib.hid (PX_3.out.call hb)
                refine hK.out _ _ (InvG.mk PX_4.out.B trivial) (fun _ => ?_)
                clear hK HC hr hb PX_3 HE_3 P2_3 PA6_3 PA7_3 Pc1_3
                refine fgA10_124 ?_
                refine wpAnyG_ready (rs := [4]) (by kernel_rfl) (by simp) ?_
                refine AllReadyG.plain rfl rfl (fun K hK => ?_) (AllReadyG.nil)
                ·have HC := Lib.hid (Of_any _ f2 ds v4 (fragE_le v4 [some g7, some g6]) P2_4.out)
                 go_simp
                 refine HC.out.mono ?_
                 rintro e v5 ⟨c4, rfl, hr, hb⟩
                 have Pc4_5 := Lib.hid (FilR.mono (fragJ_E hb HE_4.out) hr)
                 have HE_5 := Lib.hid (he_next HE_4.out hb)
                 have PA6_5 := Lib.hid (PA6_4.out.below hb PA6_4.out.lt)
                 have PA7_5 := Lib.hid (PA7_4.out.below hb PA7_4.out.lt)
                 have Pc2_5 := Lib.hid (fil_next Pc2_4.out hb)
                 have PX_5 := Lib.hid (PX_4.out.call hb)
                 refine hK.out _ _ (InvG.mk PX_5.out.B trivial) (fun _ => ?_)
                 clear hK HC hr hb PX_4 HE_4 P2_4 PA6_4 PA7_4 Pc2_4
                 refine fgA10_124 ?_
                 refine wpAnyG_ready (rs := [5]) (by kernel_rfl) (by simp) ?_
                 refine AllReadyG.plain rfl rfl (fun K hK => ?_) (AllReadyG.nil)
                 ·have HC := Lib.hid (flat_any _ f2 c4 v5 (fragE_le v5 [some g7, some g6]) Pc4_5.out)
                  go_simp
                  refine HC.out.mono ?_
                  rintro e v6 ⟨c5, rfl, hr, hb⟩
                  have Pc5_6 := Lib.hid (FilR.mono (fragJ_E hb HE_5.out) hr)
                  have HE_6 := Lib.hid (he_next HE_5.out hb)
                  have PA6_6 := Lib.hid (PA6_5.out.below hb PA6_5.out.lt)
                  have PA7_6 := Lib.hid (PA7_5.out.below hb PA7_5.out.lt)
                  have Pc2_6 := Lib.hid (fil_next Pc2_5.out hb)
                  have PX_6 := Lib.hid (PX_5.out.call hb)
                  refine hK.out _ _ (InvG.mk PX_6.out.B trivial) (fun _ => ?_)
                  clear hK HC hr hb PX_5 HE_5 PA6_5 PA7_5 Pc2_5 Pc4_5
                  refine fgA10_124 ?_
                  have HL := Lib.hid (show Leaf w9 gF gG cs ds f1 f2 g6 g7 [some g7, some g6] c2 c5 v6 from ⟨⟨PX_6.out.W, PX_6.out.B, Pc2_6.out, Pc5_6.out, ⟨G6.out, G7.out⟩, (fun e => by have h := PN.out; omega), ⟨HB9.out.1.lt, HB9.out.2.lt⟩, ⟨by simp, by simp⟩⟩, ⟨PA6_6.out, PA7_6.out⟩⟩)
                  clear PX_6 Pc2_6 Pc5_6 PA6_6 PA7_6 HE_6
                  refine wpAnyG_ready (rs := [8]) (by kernel_rfl) (by simp) ?_
                  refine AllReadyG.plain rfl rfl (fun K hK => ?_) AllReadyG.nil
                  refine wp_store_any 40 _ _ rfl g6 c2 rfl rfl zFl HL.out.A.1 (by rw [(filR_form HL.out.r2).1]; exact infoRFl) (filR_form HL.out.r2).1 (filR_form HL.out.r2).2 ?_
                  intro y1 hS8 hgr
                  have HL1 := Lib.hid (HL.out.store hS8 hgr)
                  refine hK.out _ _ (InvG.mk HL1.out.B trivial) (fun _ => ?_)
                  clear hK hgr hS8 HL
                  refine fgA10_124 ?_
                  refine wpAnyG_ready (rs := [9]) (by kernel_rfl) (by simp) ?_
                  refine AllReadyG.plain rfl rfl (fun K hK => ?_) AllReadyG.nil
                  refine wp_store_any 40 _ _ rfl g7 c5 rfl rfl zFl HL1.out.A7 (by rw [(filR_form HL1.out.r5).1]; exact infoRFl) (filR_form HL1.out.r5).1 (filR_form HL1.out.r5).2 ?_
                  intro y2 hS9 hgr
                  have HL2 := Lib.hid (HL1.out.store hS9 hgr)
                  refine hK.out _ _ (InvG.mk HL2.out.B trivial) (fun _ => ?_)
                  clear hK hgr hS9 HL1
                  refine fgA10_124 ?_
                  refine wpAnyG_done (by kernel_rfl) ?_ _
                  go_wp2_with fail
                  go_meet
                  exact ⟨g6, g7, c2, c5, rfl, rfl, Lib.hid HL2.out.S, Lib.hid HL2.out.R, Lib.hid HL2.out.W⟩
            ·refine wp_alloc_any 40 rfl zFl zeroRFl ?_
             intro v1 g7 hg hA hb
             have PA7_1 : Hid (Blk v1 g7 zFl) := Lib.hid hA
             have G7 := Lib.hid (Nat.le_trans PX_0.out.W.size hg)
             have HE_1 := Lib.hid (he_new HE_0.out hA hb)
             have P1_1 := Lib.hid (fil_new P1_0.out hb hg)
             have P2_1 := Lib.hid (fil_new P2_0.out hb hg)
             have PX_1 := Lib.hid (PX_0.out.call hb)
             refine hK.out _ _ (InvG.mk PX_1.out.B trivial) (fun _ => ?_)
             clear hK hg hA hb PX_0 HE_0 P1_0 P2_0
             refine fgA10_124 ?_
             refine wpAnyG_ready (rs := [1, 6]) (by kernel_rfl) (by simp) ?_
             refine AllReadyG.plain rfl rfl (fun K hK => ?_) (AllReadyG.plain rfl rfl (fun K hK => ?_) (AllReadyG.nil))
             ·have HC := Lib.hid (Of_any _ f1 cs v1 (fragE_le v1 [some g7]) P1_1.out)
              go_simp
              refine HC.out.mono ?_
              rintro e v2 ⟨c1, rfl, hr, hb⟩
              have Pc1_2 := Lib.hid (FilR.mono (fragJ_E hb HE_1.out) hr)
              have HE_2 := Lib.hid (he_next HE_1.out hb)
              have P2_2 := Lib.hid (fil_next P2_1.out hb)
              have PA7_2 := Lib.hid (PA7_1.out.below hb PA7_1.out.lt)
              have PX_2 := Lib.hid (PX_1.out.call hb)
              refine hK.out _ _ (InvG.mk PX_2.out.B trivial) (fun _ => ?_)
              clear hK HC hr hb PX_1 HE_1 P1_1 P2_1 PA7_1
              refine fgA10_124 ?_
              refine wpAnyG_ready (rs := [2, 6]) (by kernel_rfl) (by simp) ?_
              refine AllReadyG.plain rfl rfl (fun K hK => ?_) (AllReadyG.plain rfl rfl (fun K hK => ?_) (AllReadyG.nil))
              ·have HC := Lib.hid (flat_any _ f1 c1 v2 (fragE_le v2 [some g7]) Pc1_2.out)
               go_simp
               refine HC.out.mono ?_
               rintro e v3 ⟨c2, rfl, hr, hb⟩
               have Pc2_3 := Lib.hid (FilR.mono (fragJ_E hb HE_2.out) hr)
               have HE_3 := Lib.hid (he_next HE_2.out hb)
               have P2_3 := Lib.hid (fil_next P2_2.out hb)
               have PA7_3 := Lib.hid (PA7_2.out.below hb PA7_2.out.lt)
               have PX_3 := Lib.hid (PX_2.out.call hb)
               refine hK.out _ _ (InvG.mk PX_3.out.B trivial) (fun _ => ?_)
               clear hK HC hr hb PX_2 HE_2 P2_2 PA7_2 Pc1_2
               refine fgA10_124 ?_
               refine wpAnyG_ready (rs := [4, 6]) (by kernel_rfl) (by simp) ?_
               refine AllReadyG.plain rfl rfl (fun K hK => ?_) (AllReadyG.plain rfl rfl (fun K hK => ?_) (AllReadyG.nil))
               ·have HC := Lib.hid (Of_any _ f2 ds v3 (fragE_le v3 [some g7]) P2_3.out)
                go_simp
                refine HC.out.mono ?_
                rintro e v4 ⟨c4, rfl, hr, hb⟩
                have Pc4_4 := Lib.hid (FilR.mono (fragJ_E hb HE_3.out) hr)
                have HE_4 := Lib.hid (he_next HE_3.out hb)
                have PA7_4 := Lib.hid (PA7_3.out.below hb PA7_3.out.lt)
                have Pc2_4 := Lib.hid (fil_next Pc2_3.out hb)
                have PX_4 := Lib.hid (PX_3.out.call hb)
                refine hK.out _ _ (InvG.mk PX_4.out.B trivial) (fun _ => ?_)
                clear hK HC hr hb PX_3 HE_3 P2_3 PA7_3 Pc2_3
                refine fgA10_124 ?_
                refine wpAnyG_ready (rs := [5, 6]) (by kernel_rfl) (by simp) ?_
                refine AllReadyG.plain rfl rfl (fun K hK => ?_) (AllReadyG.plain rfl rfl (fun K hK => ?_) (AllReadyG.nil))
                ·have HC := Lib.hid (flat_any _ f2 c4 v4 (fragE_le v4 [some g7]) Pc4_4.out)
                 go_simp
                 refine HC.out.mono ?_
                 rintro e v5 ⟨c5, rfl, hr, hb⟩
                 have Pc5_5 := Lib.hid (FilR.mono (fragJ_E hb HE_4.out) hr)
                 have HE_5 := Lib.hid (he_next HE_4.out hb)
                 have PA7_5 := Lib.hid (PA7_4.out.below hb PA7_4.out.lt)
                 have Pc2_5 := Lib.hid (fil_next Pc2_4.out hb)
                 have PX_5 := Lib.hid (PX_4.out.call hb)
                 refine hK.out _ _ (InvG.mk PX_5.out.B trivial) (fun _ => ?_)
                 clear hK HC hr hb PX_4 HE_4 PA7_4 Pc2_4 Pc4_4
                 refine fgA10_124 ?_
                 refine wpAnyG_ready (rs := [6]) (by kernel_rfl) (by simp) ?_
                 refine AllReadyG.plain rfl rfl (fun K hK => ?_) (AllReadyG.nil)
                 ·refine wp_alloc_any 40 rfl zFl zeroRFl ?_
                  intro v6 g6 hg hA hb
                  have PA6_6 : Hid (Blk v6 g6 zFl) := Lib.hid hA
                  have G6 := Lib.hid (Nat.le_trans PX_5.out.W.size hg)
                  have HE_6 := Lib.hid (he_new HE_5.out hA hb)
                  have PN := Lib.hid (Nat.lt_of_lt_of_le PA7_5.out.lt hg)
                  have PA7_6 := Lib.hid (PA7_5.out.below hb PA7_5.out.lt)
                  have Pc2_6 := Lib.hid (fil_new Pc2_5.out hb hg)
                  have Pc5_6 := Lib.hid (fil_new Pc5_5.out hb hg)
                  have PX_6 := Lib.hid (PX_5.out.call hb)
                  refine hK.out _ _ (InvG.mk PX_6.out.B trivial) (fun _ => ?_)
                  clear hK hg hA hb PX_5 HE_5 PA7_5 Pc2_5 Pc5_5
                  refine fgA10_124 ?_
                  have HL := Lib.hid (show Leaf w9 gF gG cs ds f1 f2 g6 g7 [some g6, some g7] c2 c5 v6 from ⟨⟨PX_6.out.W, PX_6.out.B, Pc2_6.out, Pc5_6.out, ⟨G6.out, G7.out⟩, (fun e => by have h := PN.out; omega), ⟨HB9.out.1.lt, HB9.out.2.lt⟩, ⟨by simp, by simp⟩⟩, ⟨PA6_6.out, PA7_6.out⟩⟩)
                  clear PX_6 Pc2_6 Pc5_6 PA6_6 PA7_6 HE_6
                  refine wpAnyG_ready (rs := [8]) (by kernel_rfl) (by simp) ?_
                  refine AllReadyG.plain rfl rfl (fun K hK => ?_) AllReadyG.nil
                  refine wp_store_any 40 _ _ rfl g6 c2 rfl rfl zFl HL.out.A.1 (by rw [(filR_form HL.out.r2).1]; exact infoRFl) (filR_form HL.out.r2).1 (filR_form HL.out.r2).2 ?_
                  intro y1 hS8 hgr
                  have HL1 := Lib.hid (HL.out.store hS8 hgr)
                  refine hK.out _ _ (InvG.mk HL1.out.B trivial) (fun _ => ?_)
                  clear hK hgr hS8 HL
                  refine fgA10_124 ?_
                  refine wpAnyG_ready (rs := [9]) (by kernel_rfl) (by simp) ?_
                  refine AllReadyG.plain rfl rfl (fun K hK => ?_) AllReadyG.nil
                  refine wp_store_any 40 _ _ rfl g7 c5 rfl rfl zFl HL1.out.A7 (by rw [(filR_form HL1.out.r5).1]; exact infoRFl) (filR_form HL1.out.r5).1 (filR_form HL1.out.r5).2 ?_
                  intro y2 hS9 hgr
                  have HL2 := Lib.hid (HL1.out.store hS9 hgr)
                  refine hK.out _ _ (InvG.mk HL2.out.B trivial) (fun _ => ?_)
                  clear hK hgr hS9 HL1
                  refine fgA10_124 ?_
                  refine wpAnyG_done (by kernel_rfl) ?_ _
                  go_wp2_with fail
                  go_meet
                  exact ⟨g6, g7, c2, c5, rfl, rfl, Lib.hid HL2.out.S, Lib.hid HL2.out.R, Lib.hid HL2.out.W⟩
                ·refine wp_alloc_any 40 rfl zFl zeroRFl ?_
                 intro v5 g6 hg hA hb
                 have PA6_5 : Hid (Blk v5 g6 zFl) := Lib.hid hA
                 have G6 := Lib.hid (Nat.le_trans PX_4.out.W.size hg)
                 have HE_5 := Lib.hid (he_new HE_4.out hA hb)
                 have PN := Lib.hid (Nat.lt_of_lt_of_le PA7_4.out.lt hg)
                 have PA7_5 := Lib.hid (PA7_4.out.below hb PA7_4.out.lt)
                 have Pc2_5 := Lib.hid (fil_new Pc2_4.out hb hg)
                 have Pc4_5 := Lib.hid (fil_new Pc4_4.out hb hg)
                 have PX_5 := Lib.hid (PX_4.out.call hb)
                 refine hK.out _ _ (InvG.mk PX_5.out.B trivial) (fun _ => ?_)
                 clear hK hg hA hb PX_4 HE_4 PA7_4 Pc2_4 Pc4_4
                 refine fgA10_124 ?_
                 refine wpAnyG_ready (rs := [5]) (by kernel_rfl) (by simp) ?_
                 refine AllReadyG.plain rfl rfl (fun K hK => ?_) (AllReadyG.nil)
                 ·have HC := Lib.hid (flat_any _ f2 c4 v5 (fragE_le v5 [some g6, some g7]) Pc4_5.out)
                  go_simp
                  refine HC.out.mono ?_
                  rintro e v6 ⟨c5, rfl, hr, hb⟩
                  have Pc5_6 := Lib.hid (FilR.mono (fragJ_E hb HE_5.out) hr)
                  have HE_6 := Lib.hid (he_next HE_5.out hb)
                  have PA7_6 := Lib.hid (PA7_5.out.below hb PA7_5.out.lt)
                  have Pc2_6 := Lib.hid (fil_next Pc2_5.out hb)
                  have PA6_6 := Lib.hid (PA6_5.out.below hb PA6_5.out.lt)
                  have PX_6 := Lib.hid (PX_5.out.call hb)
                  refine hK.out _ _ (InvG.mk PX_6.out.B trivial) (fun _ => ?_)
                  clear hK HC hr hb PX_5 HE_5 PA7_5 Pc2_5 Pc4_5 PA6_5
                  refine fgA10_124 ?_
                  have HL := Lib.hid (show Leaf w9 gF gG cs ds f1 f2 g6 g7 [some g6, some g7] c2 c5 v6 from ⟨⟨PX_6.out.W, PX_6.out.B, Pc2_6.out, Pc5_6.out, ⟨G6.out, G7.out⟩, (fun e => by have h := PN.out; omega), ⟨HB9.out.1.lt, HB9.out.2.lt⟩, ⟨by simp, by simp⟩⟩, ⟨PA6_6.out, PA7_6.out⟩⟩)
                  clear PX_6 Pc2_6 Pc5_6 PA6_6 PA7_6 HE_6
                  refine wpAnyG_ready (rs := [8]) (by kernel_rfl) (by simp) ?_
                  refine AllReadyG.plain rfl rfl (fun K hK => ?_) AllReadyG.nil
                  refine wp_store_any 40 _ _ rfl g6 c2 rfl rfl zFl HL.out.A.1 (by rw [(filR_form HL.out.r2).1]; exact infoRFl) (filR_form HL.out.r2).1 (filR_form HL.out.r2).2 ?_
                  intro y1 hS8 hgr
                  have HL1 := Lib.hid (HL.out.store hS8 hgr)
                  refine hK.out _ _ (InvG.mk HL1.out.B trivial) (fun _ => ?_)
                  clear hK hgr hS8 HL
                  refine fgA10_124 ?_
                  refine wpAnyG_ready (rs := [9]) (by kernel_rfl) (by simp) ?_
                  refine AllReadyG.plain rfl rfl (fun K hK => ?_) AllReadyG.nil
                  refine wp_store_any 40 _ _ rfl g7 c5 rfl rfl zFl HL1.out.A7 (by rw [(filR_form HL1.out.r5).1]; exact infoRFl) (filR_form HL1.out.r5).1 (filR_form HL1.out.r5).2 ?_
                  intro y2 hS9 hgr
                  have HL2 := Lib.hid (HL1.out.store hS9 hgr)
                  refine hK.out _ _ (InvG.mk HL2.out.B trivial) (fun _ => ?_)
                  clear hK hgr hS9 HL1
                  refine fgA10_124 ?_
                  refine wpAnyG_done (by kernel_rfl) ?_ _
                  go_wp2_with fail
                  go_meet
                  exact ⟨g6, g7, c2, c5, rfl, rfl, Lib.hid HL2.out.S, Lib.hid HL2.out.R, Lib.hid HL2.out.W⟩
               ·refine wp_alloc_any 40 rfl zFl zeroRFl ?_
                intro v4 g6 hg hA hb
                have PA6_4 : Hid (Blk v4 g6 zFl) := Lib.hid hA
                have G6 := Lib.hid (Nat.le_trans PX_3.out.W.size hg)
                have HE_4 := Lib.hid (he_new HE_3.out hA hb)
                have PN := Lib.hid (Nat.lt_of_lt_of_le PA7_3.out.lt hg)
                have P2_4 := Lib.hid (fil_new P2_3.out hb hg)
                have PA7_4 := Lib.hid (PA7_3.out.below hb PA7_3.out.lt)
                have Pc2_4 := Lib.hid (fil_new Pc2_3.out hb hg)
                have PX_4 := Lib.hid (PX_3.out.call hb)
                refine hK.out _ _ (InvG.mk PX_4.out.B trivial) (fun _ => ?_)
                clear hK hg hA hb PX_3 HE_3 P2_3 PA7_3 Pc2_3
                refine fgA10_124 ?_
                refine wpAnyG_ready (rs := [4]) (by kernel_rfl) (by simp) ?_
                refine AllReadyG.plain rfl rfl (fun K hK => ?_) (AllReadyG.nil)
                ·have HC := Lib.hid (Of_any _ f2 ds v4 (fragE_le v4 [some g6, some g7]) P2_4.out)
                 go_simp
                 refine HC.out.mono ?_
                 rintro e v5 ⟨c4, rfl, hr, hb⟩
                 have Pc4_5 := Lib.hid (FilR.mono (fragJ_E hb HE_4.out) hr)
                 have HE_5 := Lib.hid (he_next HE_4.out hb)
                 have PA7_5 := Lib.hid (PA7_4.out.below hb PA7_4.out.lt)
                 have Pc2_5 := Lib.hid (fil_next Pc2_4.out hb)
                 have PA6_5 := Lib.hid (PA6_4.out.below hb PA6_4.out.lt)
                 have PX_5 := Lib.hid (PX_4.out.call hb)
                 refine hK.out _ _ (InvG.mk PX_5.out.B trivial) (fun _ => ?_)
                 clear hK HC hr hb PX_4 HE_4 P2_4 PA7_4 Pc2_4 PA6_4
                 refine fgA10_124 ?_
                 refine wpAnyG_ready (rs := [5]) (by kernel_rfl) (by simp) ?_
                 refine AllReadyG.plain rfl rfl (fun K hK => ?_) (AllReadyG.nil)
                 ·have HC := Lib.hid (flat_any _ f2 c4 v5 (fragE_le v5 [some g6, some g7]) Pc4_5.out)
                  go_simp
                  refine HC.out.mono ?_
                  rintro e v6 ⟨c5, rfl, hr, hb⟩
                  have Pc5_6 := Lib.hid (FilR.mono (fragJ_E hb HE_5.out) hr)
                  have HE_6 := Lib.hid (he_next HE_5.out hb)
                  have PA7_6 := Lib.hid (PA7_5.out.below hb PA7_5.out.lt)
                  have Pc2_6 := Lib.hid (fil_next Pc2_5.out hb)
                  have PA6_6 := Lib.hid (PA6_5.out.below hb PA6_5.out.lt)
                  have PX_6 := Lib.hid (PX_5.out.call hb)
                  refine hK.out _ _ (InvG.mk PX_6.out.B trivial) (fun _ => ?_)
                  clear hK HC hr hb PX_5 HE_5 PA7_5 Pc2_5 PA6_5 Pc4_5
                  refine fgA10_124 ?_
                  have HL := Lib.hid (show Leaf w9 gF gG cs ds f1 f2 g6 g7 [some g6, some g7] c2 c5 v6 from ⟨⟨PX_6.out.W, PX_6.out.B, Pc2_6.out, Pc5_6.out, ⟨G6.out, G7.out⟩, (fun e => by have h := PN.out; omega), ⟨HB9.out.1.lt, HB9.out.2.lt⟩, ⟨by simp, by simp⟩⟩, ⟨PA6_6.out, PA7_6.out⟩⟩)
                  clear PX_6 Pc2_6 Pc5_6 PA6_6 PA7_6 HE_6
                  refine wpAnyG_ready (rs := [8]) (by kernel_rfl) (by simp) ?_
                  refine AllReadyG.plain rfl rfl (fun K hK => ?_) AllReadyG.nil
                  refine wp_store_any 40 _ _ rfl g6 c2 rfl rfl zFl HL.out.A.1 (by rw [(filR_form HL.out.r2).1]; exact infoRFl) (filR_form HL.out.r2).1 (filR_form HL.out.r2).2 ?_
                  intro y1 hS8 hgr
                  have HL1 := Lib.hid (HL.out.store hS8 hgr)
                  refine hK.out _ _ (InvG.mk HL1.out.B trivial) (fun _ => ?_)
                  clear hK hgr hS8 HL
                  refine fgA10_124 ?_
                  refine wpAnyG_ready (rs := [9]) (by kernel_rfl) (by simp) ?_
                  refine AllReadyG.plain rfl rfl (fun K hK => ?_) AllReadyG.nil
                  refine wp_store_any 40 _ _ rfl g7 c5 rfl rfl zFl HL1.out.A7 (by rw [(filR_form HL1.out.r5).1]; exact infoRFl) (filR_form HL1.out.r5).1 (filR_form HL1.out.r5).2 ?_
                  intro y2 hS9 hgr
                  have HL2 := Lib.hid (HL1.out.store hS9 hgr)
                  refine hK.out _ _ (InvG.mk HL2.out.B trivial) (fun _ => ?_)
                  clear hK hgr hS9 HL1
                  refine fgA10_124 ?_
                  refine wpAnyG_done (by kernel_rfl) ?_ _
                  go_wp2_with fail
                  go_meet
                  exact ⟨g6, g7, c2, c5, rfl, rfl, Lib.hid HL2.out.S, Lib.hid HL2.out.R, Lib.hid HL2.out.W⟩
              ·refine wp_alloc_any 40 rfl zFl zeroRFl ?_
               intro v3 g6 hg hA hb
               have PA6_3 : Hid (Blk v3 g6 zFl) := Lib.hid hA
               have G6 := Lib.hid (Nat.le_trans PX_2.out.W.size hg)
               have HE_3 := Lib.hid (he_new HE_2.out hA hb)
               have PN := Lib.hid (Nat.lt_of_lt_of_le PA7_2.out.lt hg)
               have P2_3 := Lib.hid (fil_new P2_2.out hb hg)
               have PA7_3 := Lib.hid (PA7_2.out.below hb PA7_2.out.lt)
               have Pc1_3 := Lib.hid (fil_new Pc1_2.out hb hg)
               have PX_3 := Lib.hid (PX_2.out.call hb)
               refine hK.out _ _ (InvG.mk PX_3.out.B trivial) (fun _ => ?_)
               clear hK hg hA hb PX_2 HE_2 P2_2 PA7_2 Pc1_2
               refine fgA10_124 ?_
               refine wpAnyG_ready (rs := [2]) (by kernel_rfl) (by simp) ?_
               refine AllReadyG.plain rfl rfl (fun K hK => ?_) (AllReadyG.nil)
               ·have HC := Lib.hid (flat_any _ f1 c1 v3 (fragE_le v3 [some g6, some g7]) Pc1_3.out)
                go_simp
                refine HC.out.mono ?_
                rintro e v4 ⟨c2, rfl, hr, hb⟩
                have Pc2_4 := Lib.hid (FilR.mono (fragJ_E hb HE_3.out) hr)
                have HE_4 := Lib.hid (he_next HE_3.out hb)
                have P2_4 := Lib.hid (fil_next P2_3.out hb)
                have PA7_4 := Lib.hid (PA7_3.out.below hb PA7_3.out.lt)
                have PA6_4 := Lib.hid (PA6_3.out.below hb PA6_3.out.lt)
                have PX_4 := Lib.hid (PX_3.out.call hb)
                refine hK.out _ _ (InvG.mk PX_4.out.B trivial) (fun _ => ?_)
                clear hK HC hr hb PX_3 HE_3 P2_3 PA7_3 Pc1_3 PA6_3
                refine fgA10_124 ?_
                refine wpAnyG_ready (rs := [4]) (by kernel_rfl) (by simp) ?_
                refine AllReadyG.plain rfl rfl (fun K hK => ?_) (AllReadyG.nil)
                ·have HC := Lib.hid (Of_any _ f2 ds v4 (fragE_le v4 [some g6, some g7]) P2_4.out)
                 go_simp
                 refine HC.out.mono ?_
                 rintro e v5 ⟨c4, rfl, hr, hb⟩
                 have Pc4_5 := Lib.hid (FilR.mono (fragJ_E hb HE_4.out) hr)
                 have HE_5 := Lib.hid (he_next HE_4.out hb)
                 have PA7_5 := Lib.hid (PA7_4.out.below hb PA7_4.out.lt)
                 have PA6_5 := Lib.hid (PA6_4.out.below hb PA6_4.out.lt)
                 have Pc2_5 := Lib.hid (fil_next Pc2_4.out hb)
                 have PX_5 := Lib.hid (PX_4.out.call hb)
                 refine hK.out _ _ (InvG.mk PX_5.out.B trivial) (fun _ => ?_)
                 clear hK HC hr hb PX_4 HE_4 P2_4 PA7_4 PA6_4 Pc2_4
                 refine fgA10_124 ?_
                 refine wpAnyG_ready (rs := [5]) (by kernel_rfl) (by simp) ?_
                 refine AllReadyG.plain rfl rfl (fun K hK => ?_) (AllReadyG.nil)
                 ·have HC := Lib.hid (flat_any _ f2 c4 v5 (fragE_le v5 [some g6, some g7]) Pc4_5.out)
                  go_simp
                  refine HC.out.mono ?_
                  rintro e v6 ⟨c5, rfl, hr, hb⟩
                  have Pc5_6 := Lib.hid (FilR.mono (fragJ_E hb HE_5.out) hr)
                  have HE_6 := Lib.hid (he_next HE_5.out hb)
                  have PA7_6 := Lib.hid (PA7_5.out.below hb PA7_5.out.lt)
                  have PA6_6 := Lib.hid (PA6_5.out.below hb PA6_5.out.lt)
                  have Pc2_6 := Lib.hid (fil_next Pc2_5.out hb)
                  have PX_6 := Lib.hid (PX_5.out.call hb)
                  refine hK.out _ _ (InvG.mk PX_6.out.B trivial) (fun _ => ?_)
                  clear hK HC hr hb PX_5 HE_5 PA7_5 PA6_5 Pc2_5 Pc4_5
                  refine fgA10_124 ?_
                  have HL := Lib.hid (show Leaf w9 gF gG cs ds f1 f2 g6 g7 [some g6, some g7] c2 c5 v6 from ⟨⟨PX_6.out.W, PX_6.out.B, Pc2_6.out, Pc5_6.out, ⟨G6.out, G7.out⟩, (fun e => by have h := PN.out; omega), ⟨HB9.out.1.lt, HB9.out.2.lt⟩, ⟨by simp, by simp⟩⟩, ⟨PA6_6.out, PA7_6.out⟩⟩)
                  clear PX_6 Pc2_6 Pc5_6 PA6_6 PA7_6 HE_6
                  refine wpAnyG_ready (rs := [8]) (by kernel_rfl) (by simp) ?_
                  refine AllReadyG.plain rfl rfl (fun K hK => ?_) AllReadyG.nil
                  refine wp_store_any 40 _ _ rfl g6 c2 rfl rfl zFl HL.out.A.1 (by rw [(filR_form HL.out.r2).1]; exact infoRFl) (filR_form HL.out.r2).1 (filR_form HL.out.r2).2 ?_
                  intro y1 hS8 hgr
                  have HL1 := Lib.hid (HL.out.store hS8 hgr)
                  refine hK.out _ _ (InvG.mk HL1.out.B trivial) (fun _ => ?_)
                  clear hK hgr hS8 HL
                  refine fgA10_124 ?_
                  refine wpAnyG_ready (rs := [9]) (by kernel_rfl) (by simp) ?_
                  refine AllReadyG.plain rfl rfl (fun K hK => ?_) AllReadyG.nil
                  refine wp_store_any 40 _ _ rfl g7 c5 rfl rfl zFl HL1.out.A7 (by rw [(filR_form HL1.out.r5).1]; exact infoRFl) (filR_form HL1.out.r5).1 (filR_form HL1.out.r5).2 ?_
                  intro y2 hS9 hgr
                  have HL2 := Lib.hid (HL1.out.store hS9 hgr)
                  refine hK.out _ _ (InvG.mk HL2.out.B trivial) (fun _ => ?_)
                  clear hK hgr hS9 HL1
                  refine fgA10_124 ?_
                  refine wpAnyG_done (by kernel_rfl) ?_ _
                  go_wp2_with fail
                  go_meet
                  exact ⟨g6, g7, c2, c5, rfl, rfl, Lib.hid HL2.out.S, Lib.hid HL2.out.R, Lib.hid HL2.out.W⟩
             ·refine wp_alloc_any 40 rfl zFl zeroRFl ?_
              intro v2 g6 hg hA hb
              have PA6_2 : Hid (Blk v2 g6 zFl) := Lib.hid hA
              have G6 := Lib.hid (Nat.le_trans PX_1.out.W.size hg)
              have HE_2 := Lib.hid (he_new HE_1.out hA hb)
              have PN := Lib.hid (Nat.lt_of_lt_of_le PA7_1.out.lt hg)
              have P1_2 := Lib.hid (fil_new P1_1.out hb hg)
              have P2_2 := Lib.hid (fil_new P2_1.out hb hg)
              have PA7_2 := Lib.hid (PA7_1.out.below hb PA7_1.out.lt)
              have PX_2 := Lib.hid (PX_1.out.call hb)
              refine hK.out _ _ (InvG.mk PX_2.out.B trivial) (fun _ => ?_)
              clear hK hg hA hb PX_1 HE_1 P1_1 P2_1 PA7_1
              refine fgA10_124 ?_
              refine wpAnyG_ready (rs := [1]) (by kernel_rfl) (by simp) ?_
              refine AllReadyG.plain rfl rfl (fun K hK => ?_) (AllReadyG.nil)
              ·have HC := Lib.hid (Of_any _ f1 cs v2 (fragE_le v2 [some g6, some g7]) P1_2.out)
               go_simp
               refine HC.out.mono ?_
               rintro e v3 ⟨c1, rfl, hr, hb⟩
               have Pc1_3 := Lib.hid (FilR.mono (fragJ_E hb HE_2.out) hr)
               have HE_3 := Lib.hid (he_next HE_2.out hb)
               have P2_3 := Lib.hid (fil_next P2_2.out hb)
               have PA7_3 := Lib.hid (PA7_2.out.below hb PA7_2.out.lt)
               have PA6_3 := Lib.hid (PA6_2.out.below hb PA6_2.out.lt)
               have PX_3 := Lib.hid (PX_2.out.call hb)
               refine hK.out _ _ (InvG.mk PX_3.out.B trivial) (fun _ => ?_)
               clear hK HC hr hb PX_2 HE_2 P1_2 P2_2 PA7_2 PA6_2
               refine fgA10_124 ?_
               refine wpAnyG_ready (rs := [2]) (by kernel_rfl) (by simp) ?_
               refine AllReadyG.plain rfl rfl (fun K hK => ?_) (AllReadyG.nil)
               ·have HC := Lib.hid (flat_any _ f1 c1 v3 (fragE_le v3 [some g6, some g7]) Pc1_3.out)
                go_simp
                refine HC.out.mono ?_
                rintro e v4 ⟨c2, rfl, hr, hb⟩
                have Pc2_4 := Lib.hid (FilR.mono (fragJ_E hb HE_3.out) hr)
                have HE_4 := Lib.hid (he_next HE_3.out hb)
                have P2_4 := Lib.hid (fil_next P2_3.out hb)
                have PA7_4 := Lib.hid (PA7_3.out.below hb PA7_3.out.lt)
                have PA6_4 := Lib.hid (PA6_3.out.below hb PA6_3.out.lt)
                have PX_4 := Lib.hid (PX_3.out.call hb)
                refine hK.out _ _ (InvG.mk PX_4.out.B trivial) (fun _ => ?_)
                clear hK HC hr hb PX_3 HE_3 P2_3 PA7_3 PA6_3 Pc1_3
                refine fgA10_124 ?_
                refine wpAnyG_ready (rs := [4]) (by kernel_rfl) (by simp) ?_
                refine AllReadyG.plain rfl rfl (fun K hK => ?_) (AllReadyG.nil)
                ·have HC := Lib.hid (Of_any _ f2 ds v4 (fragE_le v4 [some g6, some g7]) P2_4.out)
                 go_simp
                 refine HC.out.mono ?_
                 rintro e v5 ⟨c4, rfl, hr, hb⟩
                 have Pc4_5 := Lib.hid (FilR.mono (fragJ_E hb HE_4.out) hr)
                 have HE_5 := Lib.hid (he_next HE_4.out hb)
                 have PA7_5 := Lib.hid (PA7_4.out.below hb PA7_4.out.lt)
                 have PA6_5 := Lib.hid (PA6_4.out.below hb PA6_4.out.lt)
                 have Pc2_5 := Lib.hid (fil_next Pc2_4.out hb)
                 have PX_5 := Lib.hid (PX_4.out.call hb)
                 refine hK.out _ _ (InvG.mk PX_5.out.B trivial) (fun _ => ?_)
                 clear hK HC hr hb PX_4 HE_4 P2_4 PA7_4 PA6_4 Pc2_4
                 refine fgA10_124 ?_
                 refine wpAnyG_ready (rs := [5]) (by kernel_rfl) (by simp) ?_
                 refine AllReadyG.plain rfl rfl (fun K hK => ?_) (AllReadyG.nil)
                 ·have HC := Lib.hid (flat_any _ f2 c4 v5 (fragE_le v5 [some g6, some g7]) Pc4_5.out)
                  go_simp
                  refine HC.out.mono ?_
                  rintro e v6 ⟨c5, rfl, hr, hb⟩
                  have Pc5_6 := Lib.hid (FilR.mono (fragJ_E hb HE_5.out) hr)
                  have HE_6 := Lib.hid (he_next HE_5.out hb)
                  have PA7_6 := Lib.hid (PA7_5.out.below hb PA7_5.out.lt)
                  have PA6_6 := Lib.hid (PA6_5.out.below hb PA6_5.out.lt)
                  have Pc2_6 := Lib.hid (fil_next Pc2_5.out hb)
                  have PX_6 := Lib.hid (PX_5.out.call hb)
                  refine hK.out _ _ (InvG.mk PX_6.out.B trivial) (fun _ => ?_)
                  clear hK HC hr hb PX_5 HE_5 PA7_5 PA6_5 Pc2_5 Pc4_5
                  refine fgA10_124 ?_
                  have HL := Lib.hid (show Leaf w9 gF gG cs ds f1 f2 g6 g7 [some g6, some g7] c2 c5 v6 from ⟨⟨PX_6.out.W, PX_6.out.B, Pc2_6.out, Pc5_6.out, ⟨G6.out, G7.out⟩, (fun e => by have h := PN.out; omega), ⟨HB9.out.1.lt, HB9.out.2.lt⟩, ⟨by simp, by simp⟩⟩, ⟨PA6_6.out, PA7_6.out⟩⟩)
                  clear PX_6 Pc2_6 Pc5_6 PA6_6 PA7_6 HE_6
                  refine wpAnyG_ready (rs := [8]) (by kernel_rfl) (by simp) ?_
                  refine AllReadyG.plain rfl rfl (fun K hK => ?_) AllReadyG.nil
                  refine wp_store_any 40 _ _ rfl g6 c2 rfl rfl zFl HL.out.A.1 (by rw [(filR_form HL.out.r2).1]; exact infoRFl) (filR_form HL.out.r2).1 (filR_form HL.out.r2).2 ?_
                  intro y1 hS8 hgr
                  have HL1 := Lib.hid (HL.out.store hS8 hgr)
                  refine hK.out _ _ (InvG.mk HL1.out.B trivial) (fun _ => ?_)
                  clear hK hgr hS8 HL
                  refine fgA10_124 ?_
                  refine wpAnyG_ready (rs := [9]) (by kernel_rfl) (by simp) ?_
                  refine AllReadyG.plain rfl rfl (fun K hK => ?_) AllReadyG.nil
                  refine wp_store_any 40 _ _ rfl g7 c5 rfl rfl zFl HL1.out.A7 (by rw [(filR_form HL1.out.r5).1]; exact infoRFl) (filR_form HL1.out.r5).1 (filR_form HL1.out.r5).2 ?_
                  intro y2 hS9 hgr
                  have HL2 := Lib.hid (HL1.out.store hS9 hgr)
                  refine hK.out _ _ (InvG.mk HL2.out.B trivial) (fun _ => ?_)
                  clear hK hgr hS9 HL1
                  refine fgA10_124 ?_
                  refine wpAnyG_done (by kernel_rfl) ?_ _
                  go_wp2_with fail
                  go_meet
                  exact ⟨g6, g7, c2, c5, rfl, rfl, Lib.hid HL2.out.S, Lib.hid HL2.out.R, Lib.hid HL2.out.W⟩
          case rest =>
            obtain ⟨g10, g11, za, zb, rfl, rfl, HAB, HZ, hbx⟩ := hcut
            have HBW : Hid (Below w9.heap.size w9 wc) := hbx
            have HB : Hid ((Blk wc gF cs ∧ Blk wc gG ds) ∧ Blk wc g10 za ∧ Blk wc g11 zb) := Lib.hid ⟨⟨HB9.out.1.below HBW.out HB9.out.1.lt, HB9.out.2.below HBW.out HB9.out.2.lt⟩, HAB.out⟩
            have HF : Hid (FilR (frag wc) f1 cs ∧ FilR (frag wc) f2 ds) := Lib.hid ⟨HF9.out.1.mono (below_le HBW.out), HF9.out.2.mono (below_le HBW.out)⟩
            have HW : Hid (Below w.heap.size w wc) := Lib.hid (HW9.out.trans (HBW.out.mono HW9.out.size))
            clear hbx HBW HB9 HF9 HW9 HAB
            obtain ⟨wz, hwz⟩ : ∃ z, z = wc := ⟨_, rfl⟩
            subst hwz
            have hf1 := HF.out.1; have hf2 := HF.out.2
            obtain ⟨x1, x2, mss, ess, hcs, ⟨p1, p2⟩, r1, r2⟩ := hf1
            obtain ⟨y1, y2, mss2, ess2, hds, ⟨s1, s2⟩, t1, t2⟩ := hf2
            obtain ⟨a1, c1, e1, _, _, _⟩ := p1.1.len
            obtain ⟨b1, d1, e2, _, _, _⟩ := s1.1.len
            subst e1 e2
            have HP1 := Lib.hid p1.1; have HS1 := Lib.hid s1.1
            have hbd := p1.2
            have HR1 := Lib.hid r1; have HT1 := Lib.hid t1
            have hl1 : mss.length = f1.msgs.length := r1.len
            have hl2 : mss2.length = f2.msgs.length := t1.len
            have hl3 := HG.out.2.1
            have hlen2 : mss2.length = mss.length := by omega
            obtain ⟨n, hn⟩ : ∃ z, z = mss.length := ⟨_, rfl⟩
            rw [hlen2] at HS1 hds
            rw [← hn] at HP1 HS1 hbd hcs hds
            have Hn1 := Lib.hid hn.symm; have Hn2 : Hid (mss2.length = n) := Lib.hid (hlen2.trans hn.symm)
            have Hl1 := Lib.hid hl1; have Hl2 := Lib.hid hl2
            have Hcx := Lib.hid hcs; have Hdx := Lib.hid hds
            have hns : n ≤ 9223372036854775807 := by omega
            have xF : wz.cell? ⟨gF, 1, none⟩ = some (.slice a1 n c1) := HB.out.1.1.cell (o := 1) (by rw [Hcx.out]; rfl)
            have xG : wz.cell? ⟨gG, 1, none⟩ = some (.slice b1 n d1) := HB.out.1.2.cell (o := 1) (by rw [Hdx.out]; rfl)
            clear hn hcs hds hbd hl1 hl2 hl3 hlen2 p1 p2 s1 s2 r1 r2 t1 t2
            go_wp2_with fail
            clear xF xG
            go_loopw [83] (fun iv wr => ∃ k : Nat, k ≤ n ∧ iv = .int .i64 k ∧ Hid (Below wz.heap.size wz wr)) (fun iv _ => n - (intOf iv).toNat)
            case atStart => exact ⟨0, Nat.zero_le _, rfl, Lib.hid (Below.refl _ _)⟩
            case round =>
              obtain ⟨k, hkn, rfl, HV⟩ := hrel
              by_cases hlt : k < n
              · have hs1 : k < mss.length := by rw [Hn1.out]; exact hlt
                have hs2 : k < mss2.length := by rw [Hn2.out]; exact hlt
                have hk1 : k < f1.msgs.length := by rw [← Hl1.out]; exact hs1
                have hk2 : k < f2.msgs.length := by rw [← Hl2.out]; exact hs2
                obtain ⟨d0, o0, hd0, hidx0, hcell0⟩ := FlatC.at (n := n) (cap := c1) (a := a1) (HP1.out.mono (below_le HV.out)) (by decide) (i := k) hs1 Tryz.underlying28 sizeSM
                obtain ⟨d1', o1, hd1, hidx1, hcell1⟩ := FlatC.at (n := n) (cap := d1) (a := b1) (HS1.out.mono (below_le HV.out)) (by decide) (i := k) hs2 Tryz.underlying28 sizeSM
                have hrd1 := HR1.out.at hk1 hs1
                have hrd2 := HT1.out.at hk2 hs2
                have hcnt := HG.out.2.2.1 k hk1 hk2
                have hsm1 : Sx.cntM f1.msgs[k] ≤ 1000000000 := by
                  have h1 := Sx.cnt_mem (List.getElem_mem hk1); have h2 := HC.out; have h3 := Hfew1.out; omega
                have hr0 : wr.rangeAt d0 o0 mss[k] := hcell0
                have hr1 : wr.rangeAt d1' o1 mss2[k] := hcell1
                clear hcell0 hcell1
                generalize f1.msgs[k] = x at *
                generalize f2.msgs[k] = y at *
                generalize mss[k] = xc at *
                generalize mss2[k] = yc at *
                have Hr1 : Hid (MsgR (frag wz) x xc) := Lib.hid hrd1; have Hr2 : Hid (MsgR (frag wz) y yc) := Lib.hid hrd2
                have Hx := Lib.hid hrd1.size; have Hx1 := Lib.hid hrd1.one; have Hy := Lib.hid hrd2.size; have Hy1 := Lib.hid hrd2.size
                obtain ⟨cx, hcx⟩ : ∃ z, z = Sx.cntM x := ⟨_, rfl⟩
                have Hcx1 := Lib.hid hcx.symm; have Hcx2 : Hid (Sx.cntM y = cx) := Lib.hid (hcnt.symm.trans hcx.symm)
                have Hsm : Hid (cx ≤ 1000000000) := Lib.hid (by rw [hcx]; exact hsm1)
                have HBk : Hid (Blk wr gG ds) := Lib.hid (HB.out.1.2.below HV.out HB.out.1.2.lt)
                have Hr1k := Lib.hid hr1
                clear hrd1 hrd2 hk1 hk2 hs1 hs2 hcnt hsm1 hcx hr1
                go_upto_region 23 with (first
                  | (refine wpList_load_seg rfl 47 _ rfl _ _ rfl _ _ hr0 Tryz.underlying47 rfl ?_ ?_; (· rw [Hx.out]; exact infoMs))
                  | (refine wpList_alloc_lay rfl 47 rfl zMs zeroMs ?_; (intro w3 g3 hg3 hB3 hb3))
                  | (refine wpList_store_all rfl 47 _ _ rfl g3 xc rfl rfl zMs hB3 ?_ ?_ ?_ ?_; (· rw [Hx.out]; exact infoMs); (· exact Hx.out); (· exact Hx1.out); (intro w4 hB4 hgr4; have hb4 := Below.grown hb3 hgr4 hb3.size (fun _ e => by cases e; exact hg3); clear hb3 hgr4 hB3)))
                have hP : (Blk w4 g3 xc ∧ Blk w4 gG ds) ∧ w4.rangeAt d1' o1 yc := ⟨⟨hB4, HBk.out.below hb4 HBk.out.lt⟩, range_below Hr1k.out hb4 hd1⟩
                have HP := Lib.hid hP
                have HV4 : Hid (Below wz.heap.size wz w4) := Lib.hid (HV.out.trans (hb4.mono HV.out.size))
                clear hB4 hb4 hg3 HV HBk Hr1k hr0 hidx0 hd0 hd1 hP
                refine wp_region_G 99 (fun w' => (Blk w' g3 xc ∧ Blk w' gG ds) ∧ w'.rangeAt d1' o1 yc) (fun _ => True) (by kernel_rfl) HP.out trivial (fun _ => ?_)
                refine wpAnyG_take0 (i := 0) (v := .agg xc.toArray) rfl (by kernel_rfl) (fun _ _ _ h => h) (yieldsIf_load_mid (by rfl) 47 _ rfl g3 0 (by go_simp) xc _ (fun w h => h.1.1.whole) Tryz.underlying47 rfl (by rw [Hx.out]; exact infoMs)) (InvG.mk HP.out trivial) ?_
                refine fgA16_124 ?_
                refine wpAnyG_take0 (i := 4) (v := .int .i64 k) rfl (by kernel_rfl) (fun _ _ _ h => h) (.inl ⟨by rfl, fun w hw => by go_simp⟩) (InvG.mk HP.out trivial) ?_
                refine fgA16_124 ?_
                refine wpAnyG_take0 (i := 2) (v := .pointer (some ⟨gG, 1, none⟩)) rfl (by kernel_rfl) (fun _ _ _ h => h) (.inl ⟨by rfl, fun w hw => by go_simp⟩) (InvG.mk HP.out trivial) ?_
                refine fgA16_124 ?_
                refine wpAnyG_take0 (i := 3) (v := .slice b1 n d1) rfl (by kernel_rfl) (fun _ _ _ h => h) (.inl ⟨by rfl, fun w hw => by have hc := hw.1.2.cell (o := 1) (u := Value.slice b1 n d1) (by rw [Hdx.out]; rfl); clear hw; go_simp⟩) (InvG.mk HP.out trivial) ?_
                refine fgA16_124 ?_
                refine wpAnyG_take0 (i := 5) (v := .pointer (some ⟨d1', o1, none⟩)) rfl (by kernel_rfl) (fun _ _ _ h => h) (.inl ⟨by rfl, fun w hw => by have hi := hidx1; clear hw; go_simp⟩) (InvG.mk HP.out trivial) ?_
                refine fgA16_124 ?_
                refine wpAnyG_take0 (i := 6) (v := .agg yc.toArray) rfl (by kernel_rfl) (fun _ _ _ h => h) (yieldsIf_load_mid (by rfl) 47 _ rfl d1' o1 (by go_simp) yc _ (fun w h => h.2) Tryz.underlying47 rfl (by rw [Hy.out]; exact infoMs)) (InvG.mk HP.out trivial) ?_
                refine fgA16_124 ?_
                refine wpAnyG_ready (rs := [1]) (by kernel_rfl) (by simp) ?_
                refine AllReadyG.want rfl (by rfl) (fun K hK => ?_) AllReadyG.nil
                have HCk := Lib.hid (fields_any x xc w4.drew (by rw [Hcx1.out]; exact Hsm.out) (Hr1.out.mono (below_le (HV4.out.drew))))
                rw [Hcx1.out] at HCk
                go_simp
                refine HCk.out.mono ?_
                rintro e w5 ⟨rfl, hb⟩
                have HV5 : Hid (Below wz.heap.size wz w5) := Lib.hid (Below.trans (b := w4.drew) HV4.out.drew (hb.mono HV4.out.size))
                have HP5 : Hid ((Blk w5 g3 xc ∧ Blk w5 gG ds) ∧ w5.rangeAt d1' o1 yc) := Lib.hid ⟨⟨Blk.below (w := w4.drew) HP.out.1.1 hb HP.out.1.1.lt, Blk.below (w := w4.drew) HP.out.1.2 hb HP.out.1.2.lt⟩, range_below (w := w4.drew) HP.out.2 hb (range_lt (w := w4.drew) HP.out.2 (by rw [Hy1.out]; decide))⟩
                refine hK.out _ _ (InvG.mk HP5.out trivial) (fun _ => ?_)
                clear hK hb HCk HV4 HP
                refine fgA16_124 ?_
                refine wpAnyG_ready (rs := [7]) (by kernel_rfl) (by simp) ?_
                refine AllReadyG.want rfl (by rfl) (fun K hK => ?_) AllReadyG.nil
                have HCk := Lib.hid (fields_any y yc w5 (by rw [Hcx2.out]; exact Hsm.out) (Hr2.out.mono (below_le (HV5.out))))
                rw [Hcx2.out] at HCk
                go_simp
                refine HCk.out.mono ?_
                rintro e w6 ⟨rfl, hb⟩
                have HV6 : Hid (Below wz.heap.size wz w6) := Lib.hid (Below.trans (b := w5) HV5.out (hb.mono HV5.out.size))
                have HP6 : Hid ((Blk w6 g3 xc ∧ Blk w6 gG ds) ∧ w6.rangeAt d1' o1 yc) := Lib.hid ⟨⟨Blk.below (w := w5) HP5.out.1.1 hb HP5.out.1.1.lt, Blk.below (w := w5) HP5.out.1.2 hb HP5.out.1.2.lt⟩, range_below (w := w5) HP5.out.2 hb (range_lt (w := w5) HP5.out.2 (by rw [Hy1.out]; decide))⟩
                refine hK.out _ _ (InvG.mk HP6.out trivial) (fun _ => ?_)
                clear hK hb HCk HV5 HP5
                refine fgA16_124 ?_
                refine wpAnyG_take0 (i := 8) (v := .bool false) rfl (by kernel_rfl) (fun _ _ _ h => h) (.inl ⟨by rfl, fun w hw => by go_simp⟩) (InvG.mk HP6.out trivial) ?_
                refine fgA16_124 ?_
                refine wpAnyG_take0 (i := 9) (v := .bool false) rfl (by kernel_rfl) (fun _ _ _ h => h) (.inl ⟨by rfl, fun w hw => by go_simp⟩) (InvG.mk HP6.out trivial) ?_
                refine fgA16_124 ?_
                refine wpAnyG_take0 (i := 10) (v := .agg xc.toArray) rfl (by kernel_rfl) (fun _ _ _ h => h) (yieldsIf_load_mid (by rfl) 47 _ rfl g3 0 (by go_simp) xc _ (fun w h => h.1.1.whole) Tryz.underlying47 rfl (by rw [Hx.out]; exact infoMs)) (InvG.mk HP6.out trivial) ?_
                refine fgA16_124 ?_
                refine wpAnyG_take0 (i := 12) (v := .agg xc.toArray) rfl (by kernel_rfl) (fun _ _ _ h => h) (yieldsIf_load_mid (by rfl) 47 _ rfl g3 0 (by go_simp) xc _ (fun w h => h.1.1.whole) Tryz.underlying47 rfl (by rw [Hx.out]; exact infoMs)) (InvG.mk HP6.out trivial) ?_
                refine fgA16_124 ?_
                refine wpAnyG_ready (rs := [11]) (by kernel_rfl) (by simp) ?_
                refine AllReadyG.want rfl (by rfl) (fun K hK => ?_) AllReadyG.nil
                have HCk := Lib.hid (fields_any x xc w6 (by rw [Hcx1.out]; exact Hsm.out) (Hr1.out.mono (below_le (HV6.out))))
                rw [Hcx1.out] at HCk
                go_simp
                refine HCk.out.mono ?_
                rintro e w7 ⟨rfl, hb⟩
                have HV7 : Hid (Below wz.heap.size wz w7) := Lib.hid (Below.trans (b := w6) HV6.out (hb.mono HV6.out.size))
                have HP7 : Hid ((Blk w7 g3 xc ∧ Blk w7 gG ds) ∧ w7.rangeAt d1' o1 yc) := Lib.hid ⟨⟨Blk.below (w := w6) HP6.out.1.1 hb HP6.out.1.1.lt, Blk.below (w := w6) HP6.out.1.2 hb HP6.out.1.2.lt⟩, range_below (w := w6) HP6.out.2 hb (range_lt (w := w6) HP6.out.2 (by rw [Hy1.out]; decide))⟩
                refine hK.out _ _ (InvG.mk HP7.out trivial) (fun _ => ?_)
                clear hK hb HCk HV6 HP6
                refine fgA16_124 ?_
                refine wpAnyG_ready (rs := [13]) (by kernel_rfl) (by simp) ?_
                refine AllReadyG.want rfl (by rfl) (fun K hK => ?_) AllReadyG.nil
                have HCk := Lib.hid (count_any x xc w7 (by rw [Hcx1.out]; exact Hsm.out) (Hr1.out.mono (below_le (HV7.out))))
                rw [Hcx1.out] at HCk
                go_simp
                refine HCk.out.mono ?_
                rintro e w8 ⟨rfl, hb⟩
                have HV8 : Hid (Below wz.heap.size wz w8) := Lib.hid (Below.trans (b := w7) HV7.out (hb.mono HV7.out.size))
                have HP8 : Hid ((Blk w8 g3 xc ∧ Blk w8 gG ds) ∧ w8.rangeAt d1' o1 yc) := Lib.hid ⟨⟨Blk.below (w := w7) HP7.out.1.1 hb HP7.out.1.1.lt, Blk.below (w := w7) HP7.out.1.2 hb HP7.out.1.2.lt⟩, range_below (w := w7) HP7.out.2 hb (range_lt (w := w7) HP7.out.2 (by rw [Hy1.out]; decide))⟩
                refine hK.out _ _ (InvG.mk HP8.out trivial) (fun _ => ?_)
                clear hK hb HCk HV7 HP7
                refine fgA16_124 ?_
                refine wpAnyG_take0 (i := 14) (v := .bool false) rfl (by kernel_rfl) (fun _ _ _ h => h) (.inl ⟨by rfl, fun w hw => by go_simp⟩) (InvG.mk HP8.out trivial) ?_
                refine fgA16_124 ?_
                refine wpAnyG_take0 (i := 15) (v := .bool false) rfl (by kernel_rfl) (fun _ _ _ h => h) (.inl ⟨by rfl, fun w hw => by go_simp⟩) (InvG.mk HP8.out trivial) ?_
                refine fgA16_124 ?_
                refine wpAnyG_done (by kernel_rfl) ?_ _
                go_wp2_with fail
                go_roundw
                case rel => exact ⟨k + 1, by omega, by go_num, HV8⟩
                case measure => simp [intOf]; omega
              · obtain rfl : n = k := by omega
                clear hlt hkn
                have HBe : Hid ((Blk wr gF cs ∧ Blk wr gG ds) ∧ Blk wr g10 za ∧ Blk wr g11 zb) := Lib.hid ⟨⟨HB.out.1.1.below HV.out HB.out.1.1.lt, HB.out.1.2.below HV.out HB.out.1.2.lt⟩, HB.out.2.1.below HV.out HB.out.2.1.lt, HB.out.2.2.below HV.out HB.out.2.2.lt⟩
                have HFe : Hid (FilR (frag wr) f1 cs ∧ FilR (frag wr) f2 ds) := Lib.hid ⟨HF.out.1.mono (below_le HV.out), HF.out.2.mono (below_le HV.out)⟩
                have HZe : Hid (FilR (frag wr) (Sx.zL f1) za ∧ FilR (frag wr) (Sx.zL f2) zb) := Lib.hid ⟨HZ.out.1.mono (below_le HV.out), HZ.out.2.mono (below_le HV.out)⟩
                have HWe : Hid (Below w.heap.size w wr) := Lib.hid (HW.out.trans (HV.out.mono HW.out.size))
                have Hza := Lib.hid (filR_form HZ.out.1); have Hzb := Lib.hid (filR_form HZ.out.2)
                clear HB HF HZ HW HV HP1 HS1 HR1 HT1 Hn1 Hn2 Hl1 Hl2
                go_upto_region 26 with fail
                refine wp_region_G 99 (fun w' => (Blk w' gF cs ∧ Blk w' gG ds) ∧ Blk w' g10 za ∧ Blk w' g11 zb) (fun _ => True) (by kernel_rfl) HBe.out trivial (fun _ => ?_)
                refine wpAnyG_take0 (i := 0) (v := .agg za.toArray) rfl (by kernel_rfl) (fun _ _ _ h => h) (yieldsIf_load_mid (by rfl) 40 _ rfl g10 0 (by go_simp) za _ (fun w h => h.2.1.whole) Tryz.underlying40 rfl (by rw [Hza.out.1]; exact infoRFl)) (InvG.mk HBe.out trivial) ?_
                refine fgA20_124 ?_
                refine wpAnyG_take0 (i := 1) (v := .agg zb.toArray) rfl (by kernel_rfl) (fun _ _ _ h => h) (yieldsIf_load_mid (by rfl) 40 _ rfl g11 0 (by go_simp) zb _ (fun w h => h.2.2.whole) Tryz.underlying40 rfl (by rw [Hzb.out.1]; exact infoRFl)) (InvG.mk HBe.out trivial) ?_
                refine fgA20_124 ?_
                refine wpAnyG_ready (rs := [2]) (by kernel_rfl) (by simp) ?_
                refine AllReadyG.want rfl (by rfl) (fun K hK => ?_) AllReadyG.nil
                have HCk := Lib.hid (by have h := HSm.out (Sx.zL f1) (Sx.zL f2) za zb wr.drew HZe.out.1 HZe.out.2; rw [HG.out.2.2.2] at h; exact h)
                go_simp
                refine HCk.out.mono ?_
                rintro e u1w ⟨rfl, hb⟩
                have HBe1 : Hid ((Blk u1w gF cs ∧ Blk u1w gG ds) ∧ Blk u1w g10 za ∧ Blk u1w g11 zb) := Lib.hid ⟨⟨Blk.below (w := wr.drew) HBe.out.1.1 hb HBe.out.1.1.lt, Blk.below (w := wr.drew) HBe.out.1.2 hb HBe.out.1.2.lt⟩, Blk.below (w := wr.drew) HBe.out.2.1 hb HBe.out.2.1.lt, Blk.below (w := wr.drew) HBe.out.2.2 hb HBe.out.2.2.lt⟩
                have HFe1 : Hid (FilR (frag u1w) f1 cs ∧ FilR (frag u1w) f2 ds) := Lib.hid ⟨HFe.out.1.mono (below_le (w := wr.drew) hb), HFe.out.2.mono (below_le (w := wr.drew) hb)⟩
                have HZe1 : Hid (FilR (frag u1w) (Sx.zL f1) za ∧ FilR (frag u1w) (Sx.zL f2) zb) := Lib.hid ⟨HZe.out.1.mono (below_le (w := wr.drew) hb), HZe.out.2.mono (below_le (w := wr.drew) hb)⟩
                have HWe1 : Hid (Below w.heap.size w u1w) := Lib.hid (Below.trans (b := wr.drew) HWe.out.drew (hb.mono HWe.out.size))
                refine hK.out _ _ (InvG.mk HBe1.out trivial) (fun _ => ?_)
                clear hK hb HCk HBe HFe HZe HWe
                refine fgA20_124 ?_
                refine wpAnyG_take0 (i := 3) (v := .bool true) rfl (by kernel_rfl) (fun _ _ _ h => h) (.inl ⟨by rfl, fun w hw => by go_simp⟩) (InvG.mk HBe1.out trivial) ?_
                refine fgA20_124 ?_
                refine wpAnyG_take0 (i := 4) (v := .agg cs.toArray) rfl (by kernel_rfl) (fun _ _ _ h => h) (yieldsIf_load_mid (by rfl) 31 _ rfl gF 0 (by go_simp) cs _ (fun w h => h.1.1.whole) Tryz.underlying31 rfl (by rw [Hcs.out.1]; exact infoFl)) (InvG.mk HBe1.out trivial) ?_
                refine fgA20_124 ?_
                refine wpAnyG_take0 (i := 5) (v := .agg ds.toArray) rfl (by kernel_rfl) (fun _ _ _ h => h) (yieldsIf_load_mid (by rfl) 31 _ rfl gG 0 (by go_simp) ds _ (fun w h => h.1.2.whole) Tryz.underlying31 rfl (by rw [Hds.out.1]; exact infoFl)) (InvG.mk HBe1.out trivial) ?_
                refine fgA20_124 ?_
                refine wpAnyG_take0 (i := 7) (v := .agg cs.toArray) rfl (by kernel_rfl) (fun _ _ _ h => h) (yieldsIf_load_mid (by rfl) 31 _ rfl gF 0 (by go_simp) cs _ (fun w h => h.1.1.whole) Tryz.underlying31 rfl (by rw [Hcs.out.1]; exact infoFl)) (InvG.mk HBe1.out trivial) ?_
                refine fgA20_124 ?_
                refine wpAnyG_take0 (i := 9) (v := .agg ds.toArray) rfl (by kernel_rfl) (fun _ _ _ h => h) (yieldsIf_load_mid (by rfl) 31 _ rfl gG 0 (by go_simp) ds _ (fun w h => h.1.2.whole) Tryz.underlying31 rfl (by rw [Hds.out.1]; exact infoFl)) (InvG.mk HBe1.out trivial) ?_
                refine fgA20_124 ?_
                obtain ⟨sb, hsb⟩ : ∃ z, z = Sx.sameL f1 f2 := ⟨_, rfl⟩
                have Hsb := Lib.hid hsb.symm
                clear hsb
                refine wpAnyG_ready (rs := [6]) (by kernel_rfl) (by simp) ?_
                refine AllReadyG.want rfl (by rfl) (fun K hK => ?_) AllReadyG.nil
                have HCk := Lib.hid (by have h := same_any f1 f2 cs ds u1w HFe1.out.1 HFe1.out.2; rw [Hsb.out] at h; exact h)
                go_simp
                refine HCk.out.mono ?_
                rintro e u2w ⟨rfl, hb⟩
                have HBe2 : Hid ((Blk u2w gF cs ∧ Blk u2w gG ds) ∧ Blk u2w g10 za ∧ Blk u2w g11 zb) := Lib.hid ⟨⟨Blk.below (w := u1w) HBe1.out.1.1 hb HBe1.out.1.1.lt, Blk.below (w := u1w) HBe1.out.1.2 hb HBe1.out.1.2.lt⟩, Blk.below (w := u1w) HBe1.out.2.1 hb HBe1.out.2.1.lt, Blk.below (w := u1w) HBe1.out.2.2 hb HBe1.out.2.2.lt⟩
                have HFe2 : Hid (FilR (frag u2w) f1 cs ∧ FilR (frag u2w) f2 ds) := Lib.hid ⟨HFe1.out.1.mono (below_le (w := u1w) hb), HFe1.out.2.mono (below_le (w := u1w) hb)⟩
                have HZe2 : Hid (FilR (frag u2w) (Sx.zL f1) za ∧ FilR (frag u2w) (Sx.zL f2) zb) := Lib.hid ⟨HZe1.out.1.mono (below_le (w := u1w) hb), HZe1.out.2.mono (below_le (w := u1w) hb)⟩
                have HWe2 : Hid (Below w.heap.size w u2w) := Lib.hid (Below.trans (b := u1w) HWe1.out (hb.mono HWe1.out.size))
                refine hK.out _ _ (InvG.mk HBe2.out trivial) (fun _ => ?_)
                clear hK hb HCk HBe1 HFe1 HZe1 HWe1
                refine fgA20_124 ?_
                refine wpAnyG_ready (rs := [8]) (by kernel_rfl) (by simp) ?_
                refine AllReadyG.want rfl (by rfl) (fun K hK => ?_) AllReadyG.nil
                have HCk := Lib.hid (Of_any _ f1 cs u2w (fun _ _ e => e) HFe2.out.1)
                go_simp
                refine HCk.out.mono ?_
                rintro e u3w ⟨k1, rfl, hr, hb⟩
                have HBe3 : Hid ((Blk u3w gF cs ∧ Blk u3w gG ds) ∧ Blk u3w g10 za ∧ Blk u3w g11 zb) := Lib.hid ⟨⟨Blk.below (w := u2w) HBe2.out.1.1 hb HBe2.out.1.1.lt, Blk.below (w := u2w) HBe2.out.1.2 hb HBe2.out.1.2.lt⟩, Blk.below (w := u2w) HBe2.out.2.1 hb HBe2.out.2.1.lt, Blk.below (w := u2w) HBe2.out.2.2 hb HBe2.out.2.2.lt⟩
                have HFe3 : Hid (FilR (frag u3w) f1 cs ∧ FilR (frag u3w) f2 ds) := Lib.hid ⟨HFe2.out.1.mono (below_le (w := u2w) hb), HFe2.out.2.mono (below_le (w := u2w) hb)⟩
                have HZe3 : Hid (FilR (frag u3w) (Sx.zL f1) za ∧ FilR (frag u3w) (Sx.zL f2) zb) := Lib.hid ⟨HZe2.out.1.mono (below_le (w := u2w) hb), HZe2.out.2.mono (below_le (w := u2w) hb)⟩
                have HWe3 : Hid (Below w.heap.size w u3w) := Lib.hid (Below.trans (b := u2w) HWe2.out (hb.mono HWe2.out.size))
                have Hk13 : Hid (FilR (frag u3w) f1 k1) := Lib.hid (hr.mono (fragJ_le (fun _ _ e => below_le (w := u2w) hb _ _ e)))
                refine hK.out _ _ (InvG.mk HBe3.out trivial) (fun _ => ?_)
                clear hK hb HCk HBe2 HFe2 HZe2 HWe2
                refine fgA20_124 ?_
                refine wpAnyG_ready (rs := [10]) (by kernel_rfl) (by simp) ?_
                refine AllReadyG.want rfl (by rfl) (fun K hK => ?_) AllReadyG.nil
                have HCk := Lib.hid (Of_any _ f2 ds u3w (fun _ _ e => e) HFe3.out.2)
                go_simp
                refine HCk.out.mono ?_
                rintro e u4w ⟨k2, rfl, hr, hb⟩
                have HBe4 : Hid ((Blk u4w gF cs ∧ Blk u4w gG ds) ∧ Blk u4w g10 za ∧ Blk u4w g11 zb) := Lib.hid ⟨⟨Blk.below (w := u3w) HBe3.out.1.1 hb HBe3.out.1.1.lt, Blk.below (w := u3w) HBe3.out.1.2 hb HBe3.out.1.2.lt⟩, Blk.below (w := u3w) HBe3.out.2.1 hb HBe3.out.2.1.lt, Blk.below (w := u3w) HBe3.out.2.2 hb HBe3.out.2.2.lt⟩
                have HFe4 : Hid (FilR (frag u4w) f1 cs ∧ FilR (frag u4w) f2 ds) := Lib.hid ⟨HFe3.out.1.mono (below_le (w := u3w) hb), HFe3.out.2.mono (below_le (w := u3w) hb)⟩
                have HZe4 : Hid (FilR (frag u4w) (Sx.zL f1) za ∧ FilR (frag u4w) (Sx.zL f2) zb) := Lib.hid ⟨HZe3.out.1.mono (below_le (w := u3w) hb), HZe3.out.2.mono (below_le (w := u3w) hb)⟩
                have HWe4 : Hid (Below w.heap.size w u4w) := Lib.hid (Below.trans (b := u3w) HWe3.out (hb.mono HWe3.out.size))
                have Hk14 : Hid (FilR (frag u4w) f1 k1) := Lib.hid (Hk13.out.mono (below_le (w := u3w) hb))
                have Hk24 : Hid (FilR (frag u4w) f2 k2) := Lib.hid (hr.mono (fragJ_le (fun _ _ e => below_le (w := u3w) hb _ _ e)))
                refine hK.out _ _ (InvG.mk HBe4.out trivial) (fun _ => ?_)
                clear hK hb HCk HBe3 HFe3 HZe3 HWe3
                refine fgA20_124 ?_
                refine wpAnyG_ready (rs := [11]) (by kernel_rfl) (by simp) ?_
                refine AllReadyG.want rfl (by rfl) (fun K hK => ?_) AllReadyG.nil
                have HCk := Lib.hid (by have h := HSm.out f1 f2 k1 k2 u4w Hk14.out Hk24.out; rw [Hsb.out] at h; exact h)
                go_simp
                refine HCk.out.mono ?_
                rintro e u5w ⟨rfl, hb⟩
                have HBe5 : Hid ((Blk u5w gF cs ∧ Blk u5w gG ds) ∧ Blk u5w g10 za ∧ Blk u5w g11 zb) := Lib.hid ⟨⟨Blk.below (w := u4w) HBe4.out.1.1 hb HBe4.out.1.1.lt, Blk.below (w := u4w) HBe4.out.1.2 hb HBe4.out.1.2.lt⟩, Blk.below (w := u4w) HBe4.out.2.1 hb HBe4.out.2.1.lt, Blk.below (w := u4w) HBe4.out.2.2 hb HBe4.out.2.2.lt⟩
                have HFe5 : Hid (FilR (frag u5w) f1 cs ∧ FilR (frag u5w) f2 ds) := Lib.hid ⟨HFe4.out.1.mono (below_le (w := u4w) hb), HFe4.out.2.mono (below_le (w := u4w) hb)⟩
                have HZe5 : Hid (FilR (frag u5w) (Sx.zL f1) za ∧ FilR (frag u5w) (Sx.zL f2) zb) := Lib.hid ⟨HZe4.out.1.mono (below_le (w := u4w) hb), HZe4.out.2.mono (below_le (w := u4w) hb)⟩
                have HWe5 : Hid (Below w.heap.size w u5w) := Lib.hid (Below.trans (b := u4w) HWe4.out (hb.mono HWe4.out.size))
                refine hK.out _ _ (InvG.mk HBe5.out trivial) (fun _ => ?_)
                clear hK hb HCk HBe4 HFe4 HZe4 HWe4
                refine fgA20_124 ?_
                refine wpAnyG_take0 (i := 12) (v := .bool true) rfl (by kernel_rfl) (fun _ _ _ h => h) (.inl ⟨by rfl, fun w hw => by clear hw; cases sb <;> go_simp⟩) (InvG.mk HBe5.out trivial) ?_
                refine fgA20_124 ?_
                refine wpAnyG_take0 (i := 13) (v := .bool true) rfl (by kernel_rfl) (fun _ _ _ h => h) (.inl ⟨by rfl, fun w hw => by go_simp⟩) (InvG.mk HBe5.out trivial) ?_
                refine fgA20_124 ?_
                refine wpAnyG_take0 (i := 14) (v := .bool true) rfl (by kernel_rfl) (fun _ _ _ h => h) (.inl ⟨by rfl, fun w hw => by go_simp⟩) (InvG.mk HBe5.out trivial) ?_
                refine fgA20_124 ?_
                refine wpAnyG_take0 (i := 15) (v := .agg cs.toArray) rfl (by kernel_rfl) (fun _ _ _ h => h) (yieldsIf_load_mid (by rfl) 31 _ rfl gF 0 (by go_simp) cs _ (fun w h => h.1.1.whole) Tryz.underlying31 rfl (by rw [Hcs.out.1]; exact infoFl)) (InvG.mk HBe5.out trivial) ?_
                refine fgA20_124 ?_
                refine wpAnyG_take0 (i := 16) (v := .agg cs.toArray) rfl (by kernel_rfl) (fun _ _ _ h => h) (yieldsIf_load_mid (by rfl) 31 _ rfl gF 0 (by go_simp) cs _ (fun w h => h.1.1.whole) Tryz.underlying31 rfl (by rw [Hcs.out.1]; exact infoFl)) (InvG.mk HBe5.out trivial) ?_
                refine fgA20_124 ?_
                refine wpAnyG_ready (rs := [17]) (by kernel_rfl) (by simp) ?_
                refine AllReadyG.want rfl (by rfl) (fun K hK => ?_) AllReadyG.nil
                have HCk := Lib.hid (by have h := same_any f1 f1 cs cs u5w HFe5.out.1 HFe5.out.1; rw [Sx.sameL_refl] at h; exact h)
                go_simp
                refine HCk.out.mono ?_
                rintro e u6w ⟨rfl, hb⟩
                have HBe6 : Hid ((Blk u6w gF cs ∧ Blk u6w gG ds) ∧ Blk u6w g10 za ∧ Blk u6w g11 zb) := Lib.hid ⟨⟨Blk.below (w := u5w) HBe5.out.1.1 hb HBe5.out.1.1.lt, Blk.below (w := u5w) HBe5.out.1.2 hb HBe5.out.1.2.lt⟩, Blk.below (w := u5w) HBe5.out.2.1 hb HBe5.out.2.1.lt, Blk.below (w := u5w) HBe5.out.2.2 hb HBe5.out.2.2.lt⟩
                have HFe6 : Hid (FilR (frag u6w) f1 cs ∧ FilR (frag u6w) f2 ds) := Lib.hid ⟨HFe5.out.1.mono (below_le (w := u5w) hb), HFe5.out.2.mono (below_le (w := u5w) hb)⟩
                have HZe6 : Hid (FilR (frag u6w) (Sx.zL f1) za ∧ FilR (frag u6w) (Sx.zL f2) zb) := Lib.hid ⟨HZe5.out.1.mono (below_le (w := u5w) hb), HZe5.out.2.mono (below_le (w := u5w) hb)⟩
                have HWe6 : Hid (Below w.heap.size w u6w) := Lib.hid (Below.trans (b := u5w) HWe5.out (hb.mono HWe5.out.size))
                refine hK.out _ _ (InvG.mk HBe6.out trivial) (fun _ => ?_)
                clear hK hb HCk HBe5 HFe5 HZe5 HWe5
                refine fgA20_124 ?_
                refine wpAnyG_take0 (i := 18) (v := .bool true) rfl (by kernel_rfl) (fun _ _ _ h => h) (.inl ⟨by rfl, fun w hw => by go_simp⟩) (InvG.mk HBe6.out trivial) ?_
                refine fgA20_124 ?_
                refine wpAnyG_take0 (i := 19) (v := .bool true) rfl (by kernel_rfl) (fun _ _ _ h => h) (.inl ⟨by rfl, fun w hw => by go_simp⟩) (InvG.mk HBe6.out trivial) ?_
                refine fgA20_124 ?_
                refine wpAnyG_done (by kernel_rfl) ?_ _
                go_wp2_with fail
                go_ret
                exact ⟨rfl, HWe6.out⟩

end Go.Proofs.YtiofhfcohhfihaaGreatDoor
