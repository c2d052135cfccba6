/- lexer.Where, and errors.Is at a lexer.Fault, walked. -/
import Derived.Test.YtiopcdbginnflaaGreatDoorErrAs
import Derived.Test.YtiopcdbginnflaaGreatDoorBlk
namespace Go.Proofs.YtiopcdbginnflaaGreatDoor
open Go.RowKit Go.Extern.Stop Go.Stop Go.Extern
set_option linter.unusedVariables false
set_option linter.unusedSimpArgs false

/-- the library's own variable, as it is laid -/
def ETy (w : World) : Prop := w.cell? ⟨2, 0, none⟩ = some (.iface 87 (.agg #[.pointer (some ⟨26, 25, none⟩)]))
theorem ETy.below {w w' : World} (h : ETy w) (hb : Below w.heap.size w w') : ETy w' := (hb.cell (World.block_lt_of_cell? w _ h)).trans h

set_option maxHeartbeats 1000000 in
theorem where_nil (w : World) : Calls Tryz.prog 18 #[.nilIface] w fun e w' => e = .returned (.tuple #[.int .i64 0, .int .i64 0, .bool false]) ∧ Below w.heap.size w w' := by
  have HA := Lib.hid (fun v w0 => as_nil v w0)
  go_enter Tryz.func18, Tryz.ntmps18
  go_wp2_with (go_at_call 29; (with_reducible refine (HA.out _ _).mono ?_); rintro e w' ⟨rfl, rfl⟩)
  go_ret3
  exact ⟨rfl, (Below.refl _ _).alloc (Nat.le_refl _) _⟩
set_option maxHeartbeats 1000000 in
theorem where_err (a : Addr) (w : World) (hE : ETy w) : Calls Tryz.prog 18 #[.iface 125 (.pointer (some a))] w fun e w' => e = .returned (.tuple #[.int .i64 0, .int .i64 0, .bool false]) ∧ Below w.heap.size w w' := by
  have HA := Lib.hid (as_miss a ⟨w.heap.size, 0, none⟩ (.pointer none) (w.alloc (.cells #[.pointer none] 36)) (hE.below ((Below.refl _ _).alloc (Nat.le_refl _) _)) (by simp))
  clear hE
  go_enter Tryz.func18, Tryz.ntmps18
  go_wp2_with (go_at_call 29; refine HA.out.mono ?_; rintro e w' ⟨rfl, hb⟩)
  go_ret3
  exact ⟨rfl, ((Below.refl _ _).alloc (Nat.le_refl _) _).trans (hb.mono (by simp))⟩
theorem as_hit' (e t : Addr) (old : Value) (w : World) (hE : ETy w) (ht0 : w.cell? t = some old) (hf0 : w.frozen? t = false) :
    Calls Tryz.prog 29 #[.iface 36 (.pointer (some e)), .iface 61 (.pointer (some t))] w fun ev w' => ev = .returned (.bool true) ∧ w.grownBy w' (some t.block) ∧ w'.cell? t = some (.pointer (some e)) :=
  (as_hit e t old w hE ht0 hf0).mono fun ev w' ⟨h1, h2⟩ => by
    subst h2
    have hb := ((((Below.refl w.heap.size w).alloc (Nat.le_refl _) (.cells #[.pointer (some t)] 61)).alloc (by simp) (.cells #[.pointer (some ⟨26, 61, none⟩), .pointer (some ⟨w.heap.size, 0, none⟩), .int .u64 150] 72)).alloc (by simp; omega) (.cells #[.pointer (some ⟨26, 61, none⟩), .pointer (some ⟨w.heap.size, 0, none⟩), .int .u64 150] 72)).alloc (by simp; omega) (.cells #[.pointer (some e)] 36)
    refine ⟨h1, (grown_of_below hb (some t.block)).trans (grown_setCell _ _ _), ?_⟩
    exact World.cell?_setCell_same _ _ _ ((hb.cell (World.block_lt_of_cell? w _ ht0)).trans ht0)

set_option maxHeartbeats 2000000 in
theorem where_fault (g : Nat) (line col : Int) (ev : Value) (w : World) (hE : ETy w) (hB : Blk w g [.int .i64 line, .int .i64 col, ev]) :
    Calls Tryz.prog 18 #[.iface 36 (.pointer (some ⟨g, 0, none⟩))] w fun e w' => e = .returned (.tuple #[.int .i64 line, .int .i64 col, .bool true]) ∧ Below w.heap.size w w' := by
  have HA := Lib.hid (as_hit' ⟨g, 0, none⟩ ⟨w.heap.size, 0, none⟩ (.pointer none) (w.alloc (.cells #[.pointer none] 36)) (hE.below ((Below.refl _ _).alloc (Nat.le_refl _) _)) (by simp) (by simp))
  have Hg := Lib.hid hB.lt
  have HB := Lib.hid hB
  clear hE hB
  go_enter Tryz.func18, Tryz.ntmps18
  go_upto_region 4 with (go_at_call 29; refine HA.out.mono ?_; rintro e w2 ⟨rfl, hg2, hc2⟩)
  have hb2 : Below w.heap.size w w2 := Below.grown ((Below.refl _ _).alloc (Nat.le_refl _) _) hg2 (by simp) (fun _ e => by cases e; exact Nat.le_refl _)
  have hB2 := HB.out.below hb2 Hg.out
  have c0 : w2.cell? ⟨g, 0, none⟩ = some (.int .i64 line) := hB2.cell (o := 0) rfl
  have c1 : w2.cell? ⟨g, 1, none⟩ = some (.int .i64 col) := hB2.cell (o := 1) rfl
  have Hb2 := Lib.hid hb2
  clear hB2 hb2 hg2
  go_quiet (fail)
  go_wp2
  go_ret3
  exact ⟨rfl, Below.drewN Hb2.out _⟩

set_option maxHeartbeats 1000000 in
theorem unwrap_any (g : Nat) (ev : Value) (w : World) (hc : w.cell? ⟨g, 2, none⟩ = some ev) :
    Calls Tryz.prog 104 #[.pointer (some ⟨g, 0, none⟩)] w fun e w' => e = .returned ev ∧ w = w' := by
  go_enter Tryz.func104, Tryz.ntmps104
  go_wp2
  go_ret
  exact ⟨rfl, rfl⟩
theorem noIsF (v : Value) (xT : TypeId) (w : World) : (Instr.typeAssert (.iface 36 v) xT 97 true).run Tryz.prog w = .ok (.tuple #[.nilIface, .bool false]) w := run_typeAssert_lacksB Tryz.underlying97 (by kernel_rfl) (by kernel_rfl) v xT w
theorem hasUnwrapF (v : Value) (xT : TypeId) (w : World) : (Instr.typeAssert (.iface 36 v) xT 94 true).run Tryz.prog w = .ok (.tuple #[.iface 36 v, .bool true]) w := run_typeAssert_hasB Tryz.underlying94 (by kernel_rfl) v xT w
theorem methodUnwrapF (v : Value) (w : World) : (Go.method 269 36 v "Unwrap").run Tryz.prog w = .ok (104, v) w := by kernel_rfl

set_option maxRecDepth 100000 in
set_option maxHeartbeats 2000000 in
/-- a fault that wraps nothing is no other error -/
theorem isf_nil (g : Nat) (b : Addr) (w : World) (hc : w.cell? ⟨g, 2, none⟩ = some .nilIface) :
    Calls Tryz.prog 31 #[.iface 36 (.pointer (some ⟨g, 0, none⟩)), .iface 125 (.pointer (some b))] w fun e w' => e = .returned (.bool false) ∧ w' = w := by
  have h8 := @run_callFunc_extern Tryz.prog 42 _ Extern.ReflectliteType.typeOf Tryz.func42 (by kernel_rfl) (by kernel_rfl) (by kernel_rfl) (by kernel_rfl)
  have h32 := @run_callFunc_extern Tryz.prog 110 _ (Extern.ReflectliteType.method fun t => do Extern.Rtype.noPackHeld "Comparable" t; pure (.bool (← typeInfo t).comparable)) Tryz.func110 (by kernel_rfl) (by kernel_rfl) (by kernel_rfl) (by kernel_rfl)
  have tT := isTypeOf
  have cT := isComparable
  have mR := isMethodComparable
  have nF := noIsF
  have uF := hasUnwrapF
  have mU := methodUnwrapF
  have heq := fun (w0 : World) => run_eql_iface_types (P := Tryz.prog) 36 125 (.pointer (some ⟨g, 0, none⟩)) (.pointer (some b)) Tryz.underlying25 (by decide) w0
  have HU := Lib.hid (unwrap_any g .nilIface w hc)
  go_enter Tryz.func31, Tryz.ntmps31
  go_wp2
  refine wp_loop_rounds 1 ?_
  rw [rounds_succ]
  go_wp2_with (go_at_call 104; refine HU.out.mono ?_; rintro e w' ⟨rfl, rfl⟩)
  go_ret
  exact ⟨rfl, rfl⟩

set_option maxRecDepth 100000 in
set_option maxHeartbeats 2000000 in
theorem isf_same (g : Nat) (b : Addr) (w : World) (hc : w.cell? ⟨g, 2, none⟩ = some (.iface 125 (.pointer (some b)))) :
    Calls Tryz.prog 31 #[.iface 36 (.pointer (some ⟨g, 0, none⟩)), .iface 125 (.pointer (some b))] w fun e w' => e = .returned (.bool true) ∧ w' = w := by
  obtain ⟨i, hi, hcmp⟩ := Option.map_eq_some_iff.1 isComp
  obtain ⟨j, hj, hjs⟩ := Option.map_eq_some_iff.1 isSize
  have h8 := @run_callFunc_extern Tryz.prog 42 _ Extern.ReflectliteType.typeOf Tryz.func42 (by kernel_rfl) (by kernel_rfl) (by kernel_rfl) (by kernel_rfl)
  have h32 := @run_callFunc_extern Tryz.prog 110 _ (Extern.ReflectliteType.method fun t => do Extern.Rtype.noPackHeld "Comparable" t; pure (.bool (← typeInfo t).comparable)) Tryz.func110 (by kernel_rfl) (by kernel_rfl) (by kernel_rfl) (by kernel_rfl)
  have tT := isTypeOf
  have cT := isComparable
  have mR := isMethodComparable
  have nF := noIsF
  have uF := hasUnwrapF
  have mU := methodUnwrapF
  have heq := fun (w0 : World) => run_eql_iface_types (P := Tryz.prog) 36 125 (.pointer (some ⟨g, 0, none⟩)) (.pointer (some b)) Tryz.underlying25 (by decide) w0
  have heq2 := run_eql_iface_ptr_same (P := Tryz.prog) w b Tryz.underlying25 Tryz.underlying125 hi hcmp hj
  have HU := Lib.hid (unwrap_any g _ w hc)
  clear hc
  go_enter Tryz.func31, Tryz.ntmps31
  go_wp2
  refine wp_loop_rounds 2 ?_
  rw [rounds_succ]
  go_wp2_with (go_at_call 104; refine HU.out.mono ?_; rintro e w' ⟨rfl, rfl⟩)
  rw [rounds_succ]
  go_wp2
  go_ret
  exact ⟨rfl, rfl⟩

set_option maxRecDepth 100000 in
set_option maxHeartbeats 2000000 in
theorem isf_other (g : Nat) (a b : Addr) (ca cb : Array Value) (ta tb : TypeId) (w : World) (hne : a ≠ b) (ha : w.heap[a.block]? = some (.cells ca ta (0, 0))) (hb : w.heap[b.block]? = some (.cells cb tb (0, 0))) (hc : w.cell? ⟨g, 2, none⟩ = some (.iface 125 (.pointer (some a)))) :
    Calls Tryz.prog 31 #[.iface 36 (.pointer (some ⟨g, 0, none⟩)), .iface 125 (.pointer (some b))] w fun e w' => e = .returned (.bool false) ∧ w' = w := by
  obtain ⟨i, hi, hcmp⟩ := Option.map_eq_some_iff.1 isComp
  obtain ⟨j, hj, hjs⟩ := Option.map_eq_some_iff.1 isSize
  have h8 := @run_callFunc_extern Tryz.prog 42 _ Extern.ReflectliteType.typeOf Tryz.func42 (by kernel_rfl) (by kernel_rfl) (by kernel_rfl) (by kernel_rfl)
  have h32 := @run_callFunc_extern Tryz.prog 110 _ (Extern.ReflectliteType.method fun t => do Extern.Rtype.noPackHeld "Comparable" t; pure (.bool (← typeInfo t).comparable)) Tryz.func110 (by kernel_rfl) (by kernel_rfl) (by kernel_rfl) (by kernel_rfl)
  have tT := isTypeOf
  have cT := isComparable
  have mR := isMethodComparable
  have nE := noIsE
  have uE := noUnwrapE
  have vE := noUnwrapsE
  have nF := noIsF
  have uF := hasUnwrapF
  have mU := methodUnwrapF
  have heq := fun (w0 : World) => run_eql_iface_types (P := Tryz.prog) 36 125 (.pointer (some ⟨g, 0, none⟩)) (.pointer (some b)) Tryz.underlying25 (by decide) w0
  have heq2 := run_eql_iface_ptr_other (P := Tryz.prog) w Tryz.underlying25 Tryz.underlying125 hi hcmp hj (by rw [hjs]; decide) hne ha hb
  have HU := Lib.hid (unwrap_any g _ w hc)
  clear hc
  go_enter Tryz.func31, Tryz.ntmps31
  go_wp2
  refine wp_loop_rounds 2 ?_
  rw [rounds_succ]
  go_wp2_with (go_at_call 104; refine HU.out.mono ?_; rintro e w' ⟨rfl, rfl⟩)
  rw [rounds_succ]
  go_wp2
  go_ret
  exact ⟨rfl, rfl⟩

end Go.Proofs.YtiopcdbginnflaaGreatDoor
