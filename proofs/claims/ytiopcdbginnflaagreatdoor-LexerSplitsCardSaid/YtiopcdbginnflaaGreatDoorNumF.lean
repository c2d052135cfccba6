/- redlinenum.Num at whatever error, given what errors.Is answers of it; redlinenum.Err. -/
import Derived.Test.YtiopcdbginnflaaGreatDoorErrLaid
import Derived.Test.YtiopcdbginnflaaGreatDoorLxVars
import Derived.Test.YtiopcdbginnflaaGreatDoorErrFault
namespace Go.Proofs.YtiopcdbginnflaaGreatDoor
open Go.RowKit
set_option linter.unusedVariables false
set_option linter.unusedSimpArgs false

def errCells (A : Nat → Addr) : List Value := [errV (A 0), errV (A 1), errV (A 2), errV (A 3), errV (A 4), errV (A 5), errV (A 6), errV (A 7), errV (A 8), errV (A 9), errV (A 10), errV (A 11), errV (A 12), errV (A 13), errV (A 14), errV (A 15), errV (A 16), errV (A 17), errV (A 18)]
theorem errCells_at (A : Nat → Addr) : ∀ i (h : i < 19), (errCells A)[i]'h = errV (A i) := by
  intro i h
  match i, h with
  | 0, _ => rfl
  | 1, _ => rfl
  | 2, _ => rfl
  | 3, _ => rfl
  | 4, _ => rfl
  | 5, _ => rfl
  | 6, _ => rfl
  | 7, _ => rfl
  | 8, _ => rfl
  | 9, _ => rfl
  | 10, _ => rfl
  | 11, _ => rfl
  | 12, _ => rfl
  | 13, _ => rfl
  | 14, _ => rfl
  | 15, _ => rfl
  | 16, _ => rfl
  | 17, _ => rfl
  | 18, _ => rfl
  | k + 19, h => exact absurd h (by omega)
theorem sizeErr (w : World) : (Go.sizeOf (Tryz.prog.elem 62)).run Tryz.prog w = .ok 1 w := by kernel_rfl

set_option maxRecDepth 100000 in
set_option maxHeartbeats 2000000 in
theorem all_any (A : Nat → Addr) (w : World) (h : NE A w) :
    Calls Tryz.prog 30 #[] w fun e w' => ∃ g, e = .returned (.slice (some ⟨g, 0, none⟩) 19 19) ∧ Row w' (some ⟨g, 0, none⟩) (errCells A) ∧ Below w.heap.size w w' := by
  have c0 : w.cell? ⟨3, 0, none⟩ = some (.iface 125 (.pointer (some (A 0)))) := h.cell 0 (by decide)
  have c1 : w.cell? ⟨4, 0, none⟩ = some (.iface 125 (.pointer (some (A 1)))) := h.cell 1 (by decide)
  have c2 : w.cell? ⟨0, 0, none⟩ = some (.iface 125 (.pointer (some (A 2)))) := h.cell 2 (by decide)
  have c3 : w.cell? ⟨5, 0, none⟩ = some (.iface 125 (.pointer (some (A 3)))) := h.cell 3 (by decide)
  have c4 : w.cell? ⟨6, 0, none⟩ = some (.iface 125 (.pointer (some (A 4)))) := h.cell 4 (by decide)
  have c5 : w.cell? ⟨7, 0, none⟩ = some (.iface 125 (.pointer (some (A 5)))) := h.cell 5 (by decide)
  have c6 : w.cell? ⟨8, 0, none⟩ = some (.iface 125 (.pointer (some (A 6)))) := h.cell 6 (by decide)
  have c7 : w.cell? ⟨9, 0, none⟩ = some (.iface 125 (.pointer (some (A 7)))) := h.cell 7 (by decide)
  have c8 : w.cell? ⟨1, 0, none⟩ = some (.iface 125 (.pointer (some (A 8)))) := h.cell 8 (by decide)
  have c9 : w.cell? ⟨10, 0, none⟩ = some (.iface 125 (.pointer (some (A 9)))) := h.cell 9 (by decide)
  have c10 : w.cell? ⟨11, 0, none⟩ = some (.iface 125 (.pointer (some (A 10)))) := h.cell 10 (by decide)
  have c11 : w.cell? ⟨12, 0, none⟩ = some (.iface 125 (.pointer (some (A 11)))) := h.cell 11 (by decide)
  have c12 : w.cell? ⟨13, 0, none⟩ = some (.iface 125 (.pointer (some (A 12)))) := h.cell 12 (by decide)
  have c13 : w.cell? ⟨14, 0, none⟩ = some (.iface 125 (.pointer (some (A 13)))) := h.cell 13 (by decide)
  have c14 : w.cell? ⟨15, 0, none⟩ = some (.iface 125 (.pointer (some (A 14)))) := h.cell 14 (by decide)
  have c15 : w.cell? ⟨16, 0, none⟩ = some (.iface 125 (.pointer (some (A 15)))) := h.cell 15 (by decide)
  have c16 : w.cell? ⟨17, 0, none⟩ = some (.iface 125 (.pointer (some (A 16)))) := h.cell 16 (by decide)
  have c17 : w.cell? ⟨18, 0, none⟩ = some (.iface 125 (.pointer (some (A 17)))) := h.cell 17 (by decide)
  have c18 : w.cell? ⟨19, 0, none⟩ = some (.iface 125 (.pointer (some (A 18)))) := h.cell 18 (by decide)
  have Hb : Hid (Below w.heap.size w (w.alloc (.cells (errCells A).toArray 25))) := (Below.refl _ _).alloc (Nat.le_refl _) _
  have HR : Hid (Row (w.alloc (.cells (errCells A).toArray 25)) (some ⟨w.heap.size, 0, none⟩) (errCells A)) := by
    refine .inr ⟨w.heap.size, 0, rfl, by simp, fun i hi => ?_⟩
    rw [Nat.zero_add, World.cell?_alloc_at _ _ _ _ rfl]
    simp
  clear h
  go_enter Tryz.func30, Tryz.ntmps30
  go_wp2
  go_ret
  exact ⟨w.heap.size, rfl, HR.out, Hb.out⟩

theorem num_nil (w : World) : Calls Tryz.prog 19 #[.nilIface] w fun e w' => e = .returned (.int .i64 0) ∧ Below w.heap.size w w' := by
  go_enter Tryz.func19, Tryz.ntmps19
  go_wp2
  go_ret
  exact ⟨rfl, Below.refl _ _⟩

set_option maxRecDepth 100000 in
set_option maxHeartbeats 2000000 in
theorem num_gen (A : Nat → Addr) (w : World) (h : NE A w) (T : TypeId) (p : Value) (n : Nat) (hn : n < 19)
    (hS : ∀ wx, Below w.heap.size w wx → Calls Tryz.prog 31 #[.iface T p, errV (A n)] wx fun e w' => e = .returned (.bool true) ∧ w' = wx)
    (hO : ∀ k, k < n → ∀ wx, Below w.heap.size w wx → Calls Tryz.prog 31 #[.iface T p, errV (A k)] wx fun e w' => e = .returned (.bool false) ∧ w' = wx) :
    Calls Tryz.prog 19 #[.iface T p] w fun e w' => e = .returned (.int .i64 (n + 1 : Nat)) ∧ Below w.heap.size w w' := by
  have HA := Lib.hid (all_any A w h)
  have HS := Lib.hid hS
  have HO := Lib.hid hO
  clear h hS hO
  go_enter Tryz.func19, Tryz.ntmps19
  go_wp2_with fail
  refine HA.out.mono ?_
  rintro e w1 ⟨g, rfl, hR, hb1⟩
  have HR := Lib.hid hR
  have Hb1 := Lib.hid hb1
  clear hR hb1
  go_wp2_with fail
  go_loop [9] (fun i => ∃ k : Nat, k ≤ n ∧ i = .int .i64 k) (fun i => n + 1 - (intOf i).toNat)
  case atStart => exact ⟨0, Nat.zero_le _, rfl⟩
  case round =>
    obtain ⟨k, hk, rfl⟩ := hrel
    have hk19 : k < 19 := by omega
    obtain ⟨b, o, hb, hidx, hcell⟩ := idx (P := Tryz.prog) (t := 62) (n := 19) (cap := 19) HR.out (i := k) hk19 rfl Tryz.underlying62 sizeErr
    replace hcell := hcell.trans (congrArg some (errCells_at A k hk19))
    by_cases hkn : k = n
    · subst hkn
      have HSk := Lib.hid (HS.out w1 Hb1.out)
      unfold errV at hcell HSk
      go_wp2_with (go_at_call 31; (with_reducible refine HSk.out.mono ?_); rintro e w2 ⟨rfl, rfl⟩)
      go_ret
      exact ⟨ret_int (by simp), Hb1.out⟩
    · have hlt : k < n := by omega
      have HOk := Lib.hid (HO.out k hlt w1 Hb1.out)
      unfold errV at hcell HOk
      go_wp2_with (go_at_call 31; (with_reducible refine HOk.out.mono ?_); rintro e w2 ⟨rfl, rfl⟩)
      go_round
      case rel => exact ⟨k + 1, by omega, by go_num⟩
      case measure => simp [intOf]; omega

theorem num_err (A : Nat → Addr) (w : World) (h : NE A w) (n : Nat) (hn : n < 19) :
    Calls Tryz.prog 19 #[errV (A n)] w fun e w' => e = .returned (.int .i64 (n + 1 : Nat)) ∧ Below w.heap.size w w' :=
  num_gen A w h _ _ n hn (fun wx _ => is_same (A n) wx) (fun k hk wx hb => is_other (A n) (A k) _ _ _ _ wx (h.ne n k hn (by omega) (by omega)) ((h.keep hb).blk n hn).choose_spec.choose_spec ((h.keep hb).blk k (by omega)).choose_spec.choose_spec)
theorem num_fault (A : Nat → Addr) (w : World) (h : NE A w) (g n : Nat) (hn : n < 19) (hg : g < w.heap.size) (hc : w.cell? ⟨g, 2, none⟩ = some (errV (A n))) :
    Calls Tryz.prog 19 #[.iface 36 (.pointer (some ⟨g, 0, none⟩))] w fun e w' => e = .returned (.int .i64 (n + 1 : Nat)) ∧ Below w.heap.size w w' :=
  num_gen A w h _ _ n hn (fun wx hb => isf_same g (A n) wx ((hb.cell (p := ⟨g, 2, none⟩) hg).trans hc)) (fun k hk wx hb => isf_other g (A n) (A k) _ _ _ _ wx (h.ne n k hn (by omega) (by omega)) ((h.keep hb).blk n hn).choose_spec.choose_spec ((h.keep hb).blk k (by omega)).choose_spec.choose_spec ((hb.cell (p := ⟨g, 2, none⟩) hg).trans hc))

end Go.Proofs.YtiopcdbginnflaaGreatDoor
