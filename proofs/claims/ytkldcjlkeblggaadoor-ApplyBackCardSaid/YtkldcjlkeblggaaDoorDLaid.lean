/- The package variables that hold errors, as the program's text lays them: each an error that isn't nil. -/
import Derived.Test.YtkldcjlkeblggaaDoorDVal
import Derived.Test.YtkldcjlkeblggaaDoorTie
import Derived.ProofKit
import Derived.LaidMore
import Derived.OpenShut
import Derived.Stop.Joined
namespace Go.Proofs.YtkldcjlkeblggaaDoor
open Go.ChangeShapes Go.WideShapes Go.ChangeAt Go.RowKit
set_option linter.unusedVariables false

/-- What the walks are told of the variables. -/
def Laid (W : World) : Prop := ∃ er : Errs, ErrsAt er W

theorem gForm : Tryd.prog.globalNamed "redline/api.ErrForm" = some 0 := by kernel_rfl
theorem gKind : Tryd.prog.globalNamed "redline/api.ErrKind" = some 2 := by kernel_rfl
theorem gClash : Tryd.prog.globalNamed "redline/api.ErrClash" = some 1 := by kernel_rfl
theorem tForm : (Tryd.prog.globals[0]?).map (·.type) = some 37 := by kernel_rfl
theorem tKind : (Tryd.prog.globals[2]?).map (·.type) = some 37 := by kernel_rfl
theorem tClash : (Tryd.prog.globals[1]?).map (·.type) = some 37 := by kernel_rfl

theorem of_laid {W : World} (h : laidMetH Tryd.prog [("redline/api.ErrForm", Rows.laid_redline_api_ErrForm), ("redline/api.ErrKind", Rows.laid_redline_api_ErrKind), ("redline/api.ErrClash", Rows.laid_redline_api_ErrClash)] W) : Laid W := by
  rw [MakeChecks.laidMetH_plain _ _ _ (by kernel_rfl)] at h
  obtain ⟨ps, ⟨g0, t0, cs0, f0, p0, q0, hg0, ht0, hv0, hd0, ⟨g1, t1, cs1, f1, p1, q1, hg1, ht1, hv1, hd1, ⟨g2, t2, cs2, f2, p2, q2, hg2, ht2, hv2, hd2, _⟩, _⟩, _⟩, _⟩ := h
  obtain rfl := Option.some.inj (gForm.symm.trans hg0)
  obtain rfl := Option.some.inj (gKind.symm.trans hg1)
  obtain rfl := Option.some.inj (gClash.symm.trans hg2)
  obtain rfl := Option.some.inj (tForm.symm.trans ht0)
  obtain rfl := Option.some.inj (tKind.symm.trans ht1)
  obtain rfl := Option.some.inj (tClash.symm.trans ht2)
  obtain ⟨l0⟩ := cs0
  obtain ⟨l1⟩ := cs1
  obtain ⟨l2⟩ := cs2
  obtain ⟨_, u0, v0, rfl, _, _⟩ := iface_of_trod Tryd.underlying37 hd0
  obtain ⟨_, u1, v1, rfl, _, _⟩ := iface_of_trod Tryd.underlying37 hd1
  obtain ⟨_, u2, v2, rfl, _, _⟩ := iface_of_trod Tryd.underlying37 hd2
  exact ⟨⟨u0, v0, u1, v1, u2, v2⟩, by simpa using World.var?_cell hg0 hv0 0, by simpa using World.var?_cell hg1 hv1 0, by simpa using World.var?_cell hg2 hv2 0⟩

end Go.Proofs.YtkldcjlkeblggaaDoor
