/- A fault's text, the kinds' words, the nineteen errors by number: walked. -/
import Derived.Test.YtiopcdbginnflaaDoorNumF
import Derived.Test.YtiopcdbginnflaaDoorFigs
import Derived.Test.YtiopcdbginnflaaDoorShelf2
import Derived.Test.YtiopcdbginnflaaDoorHeld
import Derived.Lib.AppendIntMem
import Derived.Lib.SmallJoins
namespace Go.Proofs.YtiopcdbginnflaaDoor
open Go.RowKit
set_option linter.unusedVariables false
set_option linter.unusedSimpArgs false

/-- the library's table of powers of ten, as it is laid -/
def Pow10 (w : World) : Prop := Lib.TabIs Tryd.prog w "internal/strconv.uint64pow10" .u64 Lib.pow10Tab
theorem pow10g : Tryd.prog.globalNamed "internal/strconv.uint64pow10" = some 21 := by kernel_rfl
theorem Pow10.below {w w' : World} (h : Pow10 w) (hb : Below w.heap.size w w') : Pow10 w' := Joins.tab_stays pow10g h hb (Nat.le_refl _)
theorem itoa_any (n : Int) (w : World) (h : Pow10 w) (h0 : -9223372036854775808 ≤ n) (h1 : n ≤ 9223372036854775807) :
    Calls Tryd.prog 20 #[.int .i64 n] w fun e w' => e = .returned (.string ⟨(Lib.itoa n).toArray⟩) ∧ Below w.heap.size w w' :=
  (Tryd.strconv_Itoa n h0 h1 w h).mono fun e w' ⟨he, k, os, hw⟩ => ⟨he, by rw [hw]; exact Lib.below_grow _ _ (Nat.le_refl _) k os⟩
theorem decD_len : ∀ (k u : Nat), u < 10 ^ (k + 1) → (Lib.decDigits u).length ≤ k + 1
  | 0, u, h => by rw [Lib.decDigits, dif_pos (by simpa using h)]; simp
  | k + 1, u, h => by
    by_cases h10 : u < 10
    · rw [Lib.decDigits, dif_pos h10]; simp
    · rw [decD_step h10, List.length_append, List.length_singleton]
      have : u / 10 < 10 ^ (k + 1) := by
        rw [Nat.div_lt_iff_lt_mul (by decide)]
        rw [Nat.pow_succ] at h; omega
      have := decD_len k (u / 10) this
      omega
theorem itoa_len (n : Int) (h0 : -9223372036854775808 ≤ n) (h1 : n ≤ 9223372036854775807) : (Lib.itoa n).length ≤ 21 := by
  have key : ∀ u : Nat, u ≤ 9223372036854775808 → (Lib.decDigits u).length ≤ 20 := fun u hu => decD_len 19 u (Nat.lt_of_le_of_lt hu (by decide))
  unfold Lib.itoa
  split
  · rw [List.length_cons]; have := key n.natAbs (by omega); omega
  · have := key n.toNat (by omega); omega
/-- a fault's text -/
def faultText (line col : Int) : ByteArray := (⟨(Lib.itoa line).toArray⟩ ++ ⟨#[58]⟩) ++ ⟨(Lib.itoa col).toArray⟩

set_option maxHeartbeats 2000000 in
set_option maxRecDepth 100000 in
theorem error_any (g : Nat) (line col : Int) (ev : Value) (w : World) (hp : Pow10 w) (hB : Blk w g [.int .i64 line, .int .i64 col, ev]) (h0 : -9223372036854775808 ≤ line) (h1 : line ≤ 9223372036854775807) (h2 : -9223372036854775808 ≤ col) (h3 : col ≤ 9223372036854775807) :
    Calls Tryd.prog 9 #[.pointer (some ⟨g, 0, none⟩)] w fun e w' => e = .returned (.string (faultText line col)) ∧ Below w.heap.size w w' := by
  have hl1 : (⟨(Lib.itoa line).toArray⟩ : ByteArray).size ≤ 21 := by show (Lib.itoa line).toArray.size ≤ 21; simpa using itoa_len line h0 h1
  have hl2 : (⟨(Lib.itoa col).toArray⟩ : ByteArray).size ≤ 21 := by show (Lib.itoa col).toArray.size ≤ 21; simpa using itoa_len col h2 h3
  have HL := Lib.hid (fun wx (h : Below w.heap.size w wx) => itoa_any line wx (hp.below h) h0 h1)
  have HC := Lib.hid (fun wx (h : Below w.heap.size w wx) => itoa_any col wx (hp.below h) h2 h3)
  unfold faultText
  generalize (⟨(Lib.itoa line).toArray⟩ : ByteArray) = tl at *
  generalize (⟨(Lib.itoa col).toArray⟩ : ByteArray) = tc at *
  have hs1 : ¬ (9223372036854775807 < tl.size + 1) := by omega
  have hs2 : ¬ (9223372036854775807 < tl.size + 1 + tc.size) := by omega
  have HK : Held w.heap.size w (fun w' => w'.cell? ⟨g, 0, none⟩ = some (.int .i64 line) ∧ w'.cell? ⟨g, 1, none⟩ = some (.int .i64 col)) :=
    ⟨Nat.le_refl _, fun w' hb => ⟨(hb.cell (p := ⟨g, 0, none⟩) hB.lt).trans (hB.cell rfl), (hb.cell (p := ⟨g, 1, none⟩) hB.lt).trans (hB.cell rfl)⟩⟩
  have HK := Lib.hid HK
  clear hp hB h0 h1 h2 h3
  go_enter Tryd.func9, Tryd.ntmps9
  go_wp2_with fail
  go_region_held3 (fun w' => (w'.cell? ⟨g, 0, none⟩ = some (.int .i64 line) ∧ w'.cell? ⟨g, 1, none⟩ = some (.int .i64 col)) ∧ Below w.heap.size w w')
    (first | assumption | exact HK.out.start | exact HK.out.call (by assumption) (by assumption) | exact HK.out.alloc (by assumption) _)
    (first
    | (go_at_call 20; (with_reducible refine (HL.out _ (And.right (by assumption))).mono ?_); rintro e w3 ⟨rfl, hb3⟩)
    | (go_at_call 20; (with_reducible refine (HC.out _ (And.right (by assumption))).mono ?_); rintro e w3 ⟨rfl, hb3⟩))
  all_goals
    go_wp2
    go_ret
    exact ⟨rfl, And.right (by assumption)⟩

/-- a kind's word -/
def kindWord (n : Int) : ByteArray := if n = 1 then ⟨#[119, 111, 114, 100]⟩ else if n = 2 then ⟨#[105, 110, 116]⟩ else if n = 3 then ⟨#[116, 101, 120, 116]⟩ else if n = 4 then ⟨#[115, 105, 103, 110]⟩ else ⟨#[]⟩
set_option maxHeartbeats 1000000 in
theorem name_any (n : Int) (w : World) : Calls Tryd.prog 13 #[.int .i64 n] w fun e w' => e = .returned (.string (kindWord n)) ∧ Below w.heap.size w w' := by
  unfold kindWord
  by_cases h1 : n = 1
  · subst h1
    go_enter Tryd.func13, Tryd.ntmps13
    go_wp2
    go_ret
    exact ⟨rfl, Below.refl _ _⟩
  by_cases h2 : n = 2
  · subst h2
    go_enter Tryd.func13, Tryd.ntmps13
    go_wp2
    go_ret
    exact ⟨rfl, Below.refl _ _⟩
  by_cases h3 : n = 3
  · subst h3
    go_enter Tryd.func13, Tryd.ntmps13
    go_wp2
    go_ret
    exact ⟨rfl, Below.refl _ _⟩
  by_cases h4 : n = 4
  · subst h4
    go_enter Tryd.func13, Tryd.ntmps13
    go_wp2
    go_ret
    exact ⟨rfl, Below.refl _ _⟩
  rw [if_neg h1, if_neg h2, if_neg h3, if_neg h4]
  have b1 : (n == 1) = false := beq_eq_false_iff_ne.2 h1
  have b2 : (n == 2) = false := beq_eq_false_iff_ne.2 h2
  have b3 : (n == 3) = false := beq_eq_false_iff_ne.2 h3
  have b4 : (n == 4) = false := beq_eq_false_iff_ne.2 h4
  clear h1 h2 h3 h4
  go_enter Tryd.func13, Tryd.ntmps13
  go_wp2
  go_ret
  exact ⟨rfl, Below.refl _ _⟩

/-- an error by its number -/
def errBy (A : Nat → Addr) (k : Nat) : Value := if k = 0 then .nilIface else errV (A (k - 1))
set_option maxHeartbeats 1000000 in
set_option maxRecDepth 100000 in
theorem errof_any (A : Nat → Addr) (k : Nat) (hk : k < 20) (w : World) (h : NE A w) : Calls Tryd.prog 7 #[.int .i64 k] w fun e w' => e = .returned (errBy A k) ∧ Below w.heap.size w w' := by
  unfold errBy
  by_cases h0 : k = 0
  · subst h0
    rw [if_pos rfl]
    go_enter Tryd.func7, Tryd.ntmps7
    go_wp2
    go_ret
    exact ⟨rfl, Below.refl _ _⟩
  · rw [if_neg h0]
    have HA := Lib.hid (all_any A w h)
    have hz : (1 : Int) ≤ (k : Int) := by omega
    have hz2 : (k : Int) ≤ 19 := by omega
    have d1 : decide ((k : Int) < 1) = false := decide_eq_false (by omega)
    have d2 : decide ((k : Int) > 19) = false := decide_eq_false (by omega)
    have d3 : decide ((19 : Int) < (k : Int)) = false := decide_eq_false (by omega)
    go_enter Tryd.func7, Tryd.ntmps7
    go_wp2_with fail
    refine HA.out.mono ?_
    rintro e w1 ⟨g, rfl, hR, hb1⟩
    obtain ⟨b, o, hb, hidx, hcell⟩ := idx (P := Tryd.prog) (t := 50) (n := 19) (cap := 19) hR (i := k - 1) (by omega) rfl Tryd.underlying50 sizeErr
    replace hcell := hcell.trans (congrArg some (errCells_at A (k - 1) (by omega)))
    rw [show ((k - 1 : Nat) : Int) = (k : Int) - 1 by omega] at hidx
    unfold errV at hcell
    clear hR hb
    go_wp2_with fail
    go_ret
    exact ⟨rfl, hb1⟩

set_option maxRecDepth 100000 in
set_option maxHeartbeats 2000000 in
/-- a fault that wraps a fault that wraps b -/
theorem isff_same (g g2 : Nat) (b : Addr) (w : World) (hc0 : w.cell? ⟨g, 2, none⟩ = some (.iface 32 (.pointer (some ⟨g2, 0, none⟩)))) (hc : w.cell? ⟨g2, 2, none⟩ = some (.iface 132 (.pointer (some b)))) :
    Calls Tryd.prog 21 #[.iface 32 (.pointer (some ⟨g, 0, none⟩)), .iface 132 (.pointer (some b))] w fun e w' => e = .returned (.bool true) ∧ w' = w := by
  obtain ⟨i, hi, hcmp⟩ := Option.map_eq_some_iff.1 isComp
  obtain ⟨j, hj, hjs⟩ := Option.map_eq_some_iff.1 isSize
  have h8 := @run_callFunc_extern Tryd.prog 35 _ Extern.ReflectliteType.typeOf Tryd.func35 (by kernel_rfl) (by kernel_rfl) (by kernel_rfl) (by kernel_rfl)
  have h32 := @run_callFunc_extern Tryd.prog 105 _ (Extern.ReflectliteType.method fun t => do Extern.Rtype.noPackHeld "Comparable" t; pure (.bool (← typeInfo t).comparable)) Tryd.func105 (by kernel_rfl) (by kernel_rfl) (by kernel_rfl) (by kernel_rfl)
  have tT := isTypeOf
  have cT := isComparable
  have mR := isMethodComparable
  have nF := noIsF
  have uF := hasUnwrapF
  have mU := methodUnwrapF
  have heq0 := fun (w0 : World) => run_eql_iface_types (P := Tryd.prog) 32 132 (.pointer (some ⟨g, 0, none⟩)) (.pointer (some b)) Tryd.underlying25 (by decide) w0
  have heq := fun (w0 : World) => run_eql_iface_types (P := Tryd.prog) 32 132 (.pointer (some ⟨g2, 0, none⟩)) (.pointer (some b)) Tryd.underlying25 (by decide) w0
  have heq2 := run_eql_iface_ptr_same (P := Tryd.prog) w b Tryd.underlying25 Tryd.underlying132 hi hcmp hj
  have HU0 := Lib.hid (unwrap_any g _ w hc0)
  have HU := Lib.hid (unwrap_any g2 _ w hc)
  clear hc hc0
  go_enter Tryd.func21, Tryd.ntmps21
  go_wp2
  refine wp_loop_rounds 3 ?_
  rw [rounds_succ]
  go_wp2_with (go_at_call 12; refine HU0.out.mono ?_; rintro e w' ⟨rfl, rfl⟩)
  rw [rounds_succ]
  go_wp2_with (go_at_call 12; refine HU.out.mono ?_; rintro e w' ⟨rfl, rfl⟩)
  rw [rounds_succ]
  go_wp2
  go_ret
  exact ⟨rfl, rfl⟩

set_option maxRecDepth 100000 in
set_option maxHeartbeats 2000000 in
theorem isff_other (g g2 : Nat) (a b : Addr) (ca cb : Array Value) (ta tb : TypeId) (w : World) (hne : a ≠ b) (ha : w.heap[a.block]? = some (.cells ca ta (0, 0))) (hb : w.heap[b.block]? = some (.cells cb tb (0, 0))) (hc0 : w.cell? ⟨g, 2, none⟩ = some (.iface 32 (.pointer (some ⟨g2, 0, none⟩)))) (hc : w.cell? ⟨g2, 2, none⟩ = some (.iface 132 (.pointer (some a)))) :
    Calls Tryd.prog 21 #[.iface 32 (.pointer (some ⟨g, 0, none⟩)), .iface 132 (.pointer (some b))] w fun e w' => e = .returned (.bool false) ∧ w' = w := by
  obtain ⟨i, hi, hcmp⟩ := Option.map_eq_some_iff.1 isComp
  obtain ⟨j, hj, hjs⟩ := Option.map_eq_some_iff.1 isSize
  have h8 := @run_callFunc_extern Tryd.prog 35 _ Extern.ReflectliteType.typeOf Tryd.func35 (by kernel_rfl) (by kernel_rfl) (by kernel_rfl) (by kernel_rfl)
  have h32 := @run_callFunc_extern Tryd.prog 105 _ (Extern.ReflectliteType.method fun t => do Extern.Rtype.noPackHeld "Comparable" t; pure (.bool (← typeInfo t).comparable)) Tryd.func105 (by kernel_rfl) (by kernel_rfl) (by kernel_rfl) (by kernel_rfl)
  have tT := isTypeOf
  have cT := isComparable
  have mR := isMethodComparable
  have nE := noIsE
  have uE := noUnwrapE
  have vE := noUnwrapsE
  have nF := noIsF
  have uF := hasUnwrapF
  have mU := methodUnwrapF
  have heq0 := fun (w0 : World) => run_eql_iface_types (P := Tryd.prog) 32 132 (.pointer (some ⟨g, 0, none⟩)) (.pointer (some b)) Tryd.underlying25 (by decide) w0
  have heq := fun (w0 : World) => run_eql_iface_types (P := Tryd.prog) 32 132 (.pointer (some ⟨g2, 0, none⟩)) (.pointer (some b)) Tryd.underlying25 (by decide) w0
  have heq2 := run_eql_iface_ptr_other (P := Tryd.prog) w Tryd.underlying25 Tryd.underlying132 hi hcmp hj (by rw [hjs]; decide) hne ha hb
  have HU0 := Lib.hid (unwrap_any g _ w hc0)
  have HU := Lib.hid (unwrap_any g2 _ w hc)
  clear hc hc0
  go_enter Tryd.func21, Tryd.ntmps21
  go_wp2
  refine wp_loop_rounds 3 ?_
  rw [rounds_succ]
  go_wp2_with (go_at_call 12; refine HU0.out.mono ?_; rintro e w' ⟨rfl, rfl⟩)
  rw [rounds_succ]
  go_wp2_with (go_at_call 12; refine HU.out.mono ?_; rintro e w' ⟨rfl, rfl⟩)
  rw [rounds_succ]
  go_wp2
  go_ret
  exact ⟨rfl, rfl⟩

theorem num_outer (A : Nat → Addr) (w : World) (h : NE A w) (g g2 n : Nat) (hn : n < 19) (hg : g < w.heap.size) (hg2 : g2 < w.heap.size) (hc0 : w.cell? ⟨g, 2, none⟩ = some (.iface 32 (.pointer (some ⟨g2, 0, none⟩)))) (hc : w.cell? ⟨g2, 2, none⟩ = some (errV (A n))) :
    Calls Tryd.prog 11 #[.iface 32 (.pointer (some ⟨g, 0, none⟩))] w fun e w' => e = .returned (.int .i64 (n + 1 : Nat)) ∧ Below w.heap.size w w' :=
  num_gen A w h _ _ n hn (fun wx hb => isff_same g g2 (A n) wx ((hb.cell (p := ⟨g, 2, none⟩) hg).trans hc0) ((hb.cell (p := ⟨g2, 2, none⟩) hg2).trans hc)) (fun k hk wx hb => isff_other g g2 (A n) (A k) _ _ _ _ wx (h.ne n k hn (by omega) (by omega)) ((h.keep hb).blk n hn).choose_spec.choose_spec ((h.keep hb).blk k (by omega)).choose_spec.choose_spec ((hb.cell (p := ⟨g, 2, none⟩) hg).trans hc0) ((hb.cell (p := ⟨g2, 2, none⟩) hg2).trans hc))

end Go.Proofs.YtiopcdbginnflaaDoor
