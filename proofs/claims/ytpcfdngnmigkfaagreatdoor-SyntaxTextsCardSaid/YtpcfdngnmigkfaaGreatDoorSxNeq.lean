/- '!=' on the structs of package syntax. -/
import Derived.Test.YtpcfdngnmigkfaaGreatDoorSxConv
import Derived.Laws.StructEq
set_option linter.unusedVariables false
set_option linter.unusedSimpArgs false
namespace Go.Proofs.YtpcfdngnmigkfaaGreatDoor
open Go.RowKit
theorem nat_beq (a b : Nat) : (((a : Nat) : Int) == ((b : Nat) : Int)) = decide (a = b) := by
 rw [Bool.eq_iff_iff, beq_iff_eq, decide_eq_true_iff]; omega
theorem int_beq (a b : Int) : (a == b) = decide (a = b) := by
 rw [Bool.eq_iff_iff, beq_iff_eq, decide_eq_true_iff]
theorem fld_eq (x y : Sx.Fld) : decide (x = y) = (decide (x.name = y.name) && decide (x.typ = y.typ) && decide (x.mapKey = y.mapKey) && decide (x.key = y.key) && decide (x.label = y.label) && decide (x.number = y.number) && decide (x.packed = y.packed) && decide (x.oneof = y.oneof) && decide (x.line = y.line) && decide (x.col = y.col)) := by
 rw [Bool.eq_iff_iff]
 simp only [Bool.and_eq_true, decide_eq_true_iff]
 constructor
 ·rintro rfl; simp
 ·rintro ⟨⟨⟨⟨⟨⟨⟨⟨⟨h1, h2⟩, h3⟩, h4⟩, h5⟩, h6⟩, h7⟩, h8⟩, h9⟩, h10⟩
  cases x; cases y; simp_all
theorem val_eq (x y : Sx.Val) : decide (x = y) = (decide (x.name = y.name) && decide (x.number = y.number) && decide (x.line = y.line) && decide (x.col = y.col)) := by
 rw [Bool.eq_iff_iff]
 simp only [Bool.and_eq_true, decide_eq_true_iff]
 constructor
 ·rintro rfl; simp
 ·rintro ⟨⟨⟨h1, h2⟩, h3⟩, h4⟩
  cases x; cases y; simp_all
theorem rng_eq (x y : Sx.Rng) : decide (x = y) = (decide (x.lo = y.lo) && decide (x.hi = y.hi)) := by
 rw [Bool.eq_iff_iff]
 simp only [Bool.and_eq_true, decide_eq_true_iff]
 constructor
 ·rintro rfl; simp
 ·rintro ⟨h1, h2⟩
  cases x; cases y; simp_all
set_option maxHeartbeats 4000000 in
theorem neqSF (x y : Sx.Fld) (w : World) : (binOp .neq 47 (.agg (fC x).toArray) (.agg (fC y).toArray)).run Tryz.prog w = .ok (.bool (!decide (x = y))) w := by
 have u3 := Tryz.underlying3
 have a3 := Tryz.isAgg3
 have z3 := Tryz.sizeOf3
 have u9 := Tryz.underlying9
 have a9 := Tryz.isAgg9
 have z9 := Tryz.sizeOf9
 have hS : Tryz.prog.underlying 47 = some (.struct (Tryz.prog.fieldsOf 47)) := by kernel_rfl
 have hp : Tryz.prog.stoodInHeld 47 = false := by kernel_rfl
 rw [fld_eq]
 have q0 := toB_beq x.name y.name
 generalize decide (x.name = y.name) = b0 at *
 have q1 := toB_beq x.typ y.typ
 generalize decide (x.typ = y.typ) = b1 at *
 have q2 := toB_beq x.mapKey y.mapKey
 generalize decide (x.mapKey = y.mapKey) = b2 at *
 have q3 := toB_beq x.key y.key
 generalize decide (x.key = y.key) = b3 at *
 have q4 := nat_beq x.label y.label
 generalize decide (x.label = y.label) = b4 at *
 have q5 := nat_beq x.number y.number
 generalize decide (x.number = y.number) = b5 at *
 have q6 := nat_beq x.packed y.packed
 generalize decide (x.packed = y.packed) = b6 at *
 have q7 := nat_beq x.oneof y.oneof
 generalize decide (x.oneof = y.oneof) = b7 at *
 have q8 := nat_beq x.line y.line
 generalize decide (x.line = y.line) = b8 at *
 have q9 := nat_beq x.col y.col
 generalize decide (x.col = y.col) = b9 at *
 unfold fC
 rw [run_neq_struct, show (10000 : Nat) = 9999 + 1 from rfl, run_equalIn_agg w 9999 47 _ _ hS hp]
 simp only [Program.fieldsOf, Tryz.underlying47]
 cases b0
 ·go_simp
 cases b1
 ·go_simp
 cases b2
 ·go_simp
 cases b3
 ·go_simp
 cases b4
 ·go_simp
 cases b5
 ·go_simp
 cases b6
 ·go_simp
 cases b7
 ·go_simp
 cases b8
 ·go_simp
 cases b9
 ·go_simp
 go_simp
set_option maxHeartbeats 4000000 in
theorem neqRF (x y : Sx.Fld) (w : World) : (binOp .neq 110 (.agg (fC x).toArray) (.agg (fC y).toArray)).run Tryz.prog w = .ok (.bool (!decide (x = y))) w := by
 have u3 := Tryz.underlying3
 have a3 := Tryz.isAgg3
 have z3 := Tryz.sizeOf3
 have u9 := Tryz.underlying9
 have a9 := Tryz.isAgg9
 have z9 := Tryz.sizeOf9
 have hS : Tryz.prog.underlying 110 = some (.struct (Tryz.prog.fieldsOf 110)) := by kernel_rfl
 have hp : Tryz.prog.stoodInHeld 110 = false := by kernel_rfl
 rw [fld_eq]
 have q0 := toB_beq x.name y.name
 generalize decide (x.name = y.name) = b0 at *
 have q1 := toB_beq x.typ y.typ
 generalize decide (x.typ = y.typ) = b1 at *
 have q2 := toB_beq x.mapKey y.mapKey
 generalize decide (x.mapKey = y.mapKey) = b2 at *
 have q3 := toB_beq x.key y.key
 generalize decide (x.key = y.key) = b3 at *
 have q4 := nat_beq x.label y.label
 generalize decide (x.label = y.label) = b4 at *
 have q5 := nat_beq x.number y.number
 generalize decide (x.number = y.number) = b5 at *
 have q6 := nat_beq x.packed y.packed
 generalize decide (x.packed = y.packed) = b6 at *
 have q7 := nat_beq x.oneof y.oneof
 generalize decide (x.oneof = y.oneof) = b7 at *
 have q8 := nat_beq x.line y.line
 generalize decide (x.line = y.line) = b8 at *
 have q9 := nat_beq x.col y.col
 generalize decide (x.col = y.col) = b9 at *
 unfold fC
 rw [run_neq_struct, show (10000 : Nat) = 9999 + 1 from rfl, run_equalIn_agg w 9999 110 _ _ hS hp]
 simp only [Program.fieldsOf, Tryz.underlying110]
 cases b0
 ·go_simp
 cases b1
 ·go_simp
 cases b2
 ·go_simp
 cases b3
 ·go_simp
 cases b4
 ·go_simp
 cases b5
 ·go_simp
 cases b6
 ·go_simp
 cases b7
 ·go_simp
 cases b8
 ·go_simp
 cases b9
 ·go_simp
 go_simp
set_option maxHeartbeats 4000000 in
theorem neqSV (x y : Sx.Val) (w : World) : (binOp .neq 116 (.agg (vC x).toArray) (.agg (vC y).toArray)).run Tryz.prog w = .ok (.bool (!decide (x = y))) w := by
 have u3 := Tryz.underlying3
 have a3 := Tryz.isAgg3
 have z3 := Tryz.sizeOf3
 have u9 := Tryz.underlying9
 have a9 := Tryz.isAgg9
 have z9 := Tryz.sizeOf9
 have hS : Tryz.prog.underlying 116 = some (.struct (Tryz.prog.fieldsOf 116)) := by kernel_rfl
 have hp : Tryz.prog.stoodInHeld 116 = false := by kernel_rfl
 rw [val_eq]
 have q0 := toB_beq x.name y.name
 generalize decide (x.name = y.name) = b0 at *
 have q1 := int_beq x.number y.number
 generalize decide (x.number = y.number) = b1 at *
 have q2 := nat_beq x.line y.line
 generalize decide (x.line = y.line) = b2 at *
 have q3 := nat_beq x.col y.col
 generalize decide (x.col = y.col) = b3 at *
 unfold vC
 rw [run_neq_struct, show (10000 : Nat) = 9999 + 1 from rfl, run_equalIn_agg w 9999 116 _ _ hS hp]
 simp only [Program.fieldsOf, Tryz.underlying116]
 cases b0
 ·go_simp
 cases b1
 ·go_simp
 cases b2
 ·go_simp
 cases b3
 ·go_simp
 go_simp
set_option maxHeartbeats 4000000 in
theorem neqRV (x y : Sx.Val) (w : World) : (binOp .neq 114 (.agg (vC x).toArray) (.agg (vC y).toArray)).run Tryz.prog w = .ok (.bool (!decide (x = y))) w := by
 have u3 := Tryz.underlying3
 have a3 := Tryz.isAgg3
 have z3 := Tryz.sizeOf3
 have u9 := Tryz.underlying9
 have a9 := Tryz.isAgg9
 have z9 := Tryz.sizeOf9
 have hS : Tryz.prog.underlying 114 = some (.struct (Tryz.prog.fieldsOf 114)) := by kernel_rfl
 have hp : Tryz.prog.stoodInHeld 114 = false := by kernel_rfl
 rw [val_eq]
 have q0 := toB_beq x.name y.name
 generalize decide (x.name = y.name) = b0 at *
 have q1 := int_beq x.number y.number
 generalize decide (x.number = y.number) = b1 at *
 have q2 := nat_beq x.line y.line
 generalize decide (x.line = y.line) = b2 at *
 have q3 := nat_beq x.col y.col
 generalize decide (x.col = y.col) = b3 at *
 unfold vC
 rw [run_neq_struct, show (10000 : Nat) = 9999 + 1 from rfl, run_equalIn_agg w 9999 114 _ _ hS hp]
 simp only [Program.fieldsOf, Tryz.underlying114]
 cases b0
 ·go_simp
 cases b1
 ·go_simp
 cases b2
 ·go_simp
 cases b3
 ·go_simp
 go_simp
set_option maxHeartbeats 4000000 in
theorem neqSR (x y : Sx.Rng) (w : World) : (binOp .neq 115 (.agg (rC x).toArray) (.agg (rC y).toArray)).run Tryz.prog w = .ok (.bool (!decide (x = y))) w := by
 have u3 := Tryz.underlying3
 have a3 := Tryz.isAgg3
 have z3 := Tryz.sizeOf3
 have u9 := Tryz.underlying9
 have a9 := Tryz.isAgg9
 have z9 := Tryz.sizeOf9
 have hS : Tryz.prog.underlying 115 = some (.struct (Tryz.prog.fieldsOf 115)) := by kernel_rfl
 have hp : Tryz.prog.stoodInHeld 115 = false := by kernel_rfl
 rw [rng_eq]
 have q0 := nat_beq x.lo y.lo
 generalize decide (x.lo = y.lo) = b0 at *
 have q1 := nat_beq x.hi y.hi
 generalize decide (x.hi = y.hi) = b1 at *
 unfold rC
 rw [run_neq_struct, show (10000 : Nat) = 9999 + 1 from rfl, run_equalIn_agg w 9999 115 _ _ hS hp]
 simp only [Program.fieldsOf, Tryz.underlying115]
 cases b0
 ·go_simp
 cases b1
 ·go_simp
 go_simp
set_option maxHeartbeats 4000000 in
theorem neqRR (x y : Sx.Rng) (w : World) : (binOp .neq 112 (.agg (rC x).toArray) (.agg (rC y).toArray)).run Tryz.prog w = .ok (.bool (!decide (x = y))) w := by
 have u3 := Tryz.underlying3
 have a3 := Tryz.isAgg3
 have z3 := Tryz.sizeOf3
 have u9 := Tryz.underlying9
 have a9 := Tryz.isAgg9
 have z9 := Tryz.sizeOf9
 have hS : Tryz.prog.underlying 112 = some (.struct (Tryz.prog.fieldsOf 112)) := by kernel_rfl
 have hp : Tryz.prog.stoodInHeld 112 = false := by kernel_rfl
 rw [rng_eq]
 have q0 := nat_beq x.lo y.lo
 generalize decide (x.lo = y.lo) = b0 at *
 have q1 := nat_beq x.hi y.hi
 generalize decide (x.hi = y.hi) = b1 at *
 unfold rC
 rw [run_neq_struct, show (10000 : Nat) = 9999 + 1 from rfl, run_equalIn_agg w 9999 112 _ _ hS hp]
 simp only [Program.fieldsOf, Tryz.underlying112]
 cases b0
 ·go_simp
 cases b1
 ·go_simp
 go_simp
end Go.Proofs.YtpcfdngnmigkfaaGreatDoor
