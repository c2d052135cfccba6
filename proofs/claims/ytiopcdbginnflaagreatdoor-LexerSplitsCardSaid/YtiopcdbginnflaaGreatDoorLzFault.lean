/- The law's look at an error: its place and its number. -/
import Derived.Test.YtiopcdbginnflaaGreatDoorNumF
namespace Go.Proofs.YtiopcdbginnflaaGreatDoor
open Go.RowKit
set_option linter.unusedVariables false
set_option linter.unusedSimpArgs false

set_option maxHeartbeats 1000000 in
theorem fault_nil (w : World) : Calls Tryz.prog 7 #[.nilIface, .int .i64 0, .int .i64 0, .int .i64 0] w fun e w' => e = .returned (.bool true) ∧ Below w.heap.size w w' := by
  have HW := Lib.hid (fun w0 => where_nil w0)
  have HN := Lib.hid (fun w0 => num_nil w0)
  go_enter Tryz.func7, Tryz.ntmps7
  go_wp2_with (first
    | (go_at_call 18; (with_reducible refine (HW.out _).mono ?_); rintro e w1 ⟨rfl, hb1⟩)
    | (go_at_call 19; (with_reducible refine (HN.out _).mono ?_); rintro e w2 ⟨rfl, hb2⟩))
  go_ret
  exact ⟨rfl, hb1.trans (hb2.mono hb1.size)⟩

set_option maxHeartbeats 1000000 in
theorem fault_at (A : Nat → Addr) (w : World) (h : NE A w) (hE : ETy w) (g n p q : Nat) (hn : n < 19) (hB : Blk w g [.int .i64 p, .int .i64 q, errV (A n)]) :
    Calls Tryz.prog 7 #[.iface 36 (.pointer (some ⟨g, 0, none⟩)), .int .i64 (n + 1 : Nat), .int .i64 p, .int .i64 q] w fun e w' => e = .returned (.bool true) ∧ Below w.heap.size w w' := by
  have HW := Lib.hid (where_fault g p q _ w hE hB)
  have HN := Lib.hid (fun w1 (hb : Below w.heap.size w w1) => num_fault A w1 (h.keep hb) g n hn (Nat.lt_of_lt_of_le hB.lt hb.size) ((hB.below hb hB.lt).cell (o := 2) rfl))
  clear h hE hB
  have hz : ¬ ((n + 1 : Nat) : Int) = 0 := by omega
  generalize ((n + 1 : Nat) : Int) = k at *
  go_enter Tryz.func7, Tryz.ntmps7
  go_wp2_with (first
    | (go_at_call 18; (with_reducible refine HW.out.mono ?_); rintro e w1 ⟨rfl, hb1⟩)
    | (go_at_call 19; (with_reducible refine (HN.out _ hb1).mono ?_); rintro e w2 ⟨rfl, hb2⟩))
  go_ret
  exact ⟨ret_bool (by rw [bne_iff_ne]; exact hz), hb1.trans (hb2.mono hb1.size)⟩

end Go.Proofs.YtiopcdbginnflaaGreatDoor
