/- The package variable kinds.names, as the program's text lays it: its cells. -/
import Derived.Test.YthbodncgppfdfaaDoorBase2
import Derived.Test.YthbodncgppfdfaaDoorTie
import Derived.ProofKit
import Derived.LaidMore
import Derived.OpenShut
import Derived.Stop.Joined
namespace Go.Proofs.YthbodncgppfdfaaDoor
open Go.ChangeShapes Go.WideShapes Go.ChangeAt Go.RowKit

/-- the names' bytes -/
def nameBytes : List (List UInt8) := [[], [100, 111, 117, 98, 108, 101], [102, 108, 111, 97, 116], [105, 110, 116, 51, 50], [105, 110, 116, 54, 52], [117, 105, 110, 116, 51, 50], [117, 105, 110, 116, 54, 52], [115, 105, 110, 116, 51, 50], [115, 105, 110, 116, 54, 52], [102, 105, 120, 101, 100, 51, 50], [102, 105, 120, 101, 100, 54, 52], [115, 102, 105, 120, 101, 100, 51, 50], [115, 102, 105, 120, 101, 100, 54, 52], [98, 111, 111, 108], [115, 116, 114, 105, 110, 103], [98, 121, 116, 101, 115], [101, 110, 117, 109], [109, 101, 115, 115, 97, 103, 101]]

theorem names_data {H : Type} : (Rows.laid_redline_kinds_names : DataW H) = .agg (nameBytes.map fun b => .lit (.string b)) := rfl

def nameOf (i : Nat) : ByteArray := ⟨(nameBytes.getD i []).toArray⟩

/-- What the walks are told of the variable. -/
def Laid (W : World) : Prop := 0 < W.heap.size ∧ ∀ i, i < 18 → W.cell? ⟨0, i, none⟩ = some (.string (nameOf i))

theorem Laid.keep {W W' : World} (h : Laid W) (hb : Below W.heap.size W W') : Laid W' :=
  ⟨Nat.lt_of_lt_of_le h.1 hb.size, fun i hi => (hb.cell (p := ⟨0, i, none⟩) h.1).trans (h.2 i hi)⟩

theorem gNames : Tryd.prog.globalNamed "redline/kinds.names" = some 0 := by kernel_rfl
theorem tNames : (Tryd.prog.globals[0]?).map (·.type) = some 34 := by kernel_rfl
theorem cNames : Tryd.prog.cellsOf 34 = 18 := by kernel_rfl
theorem cString : Tryd.prog.cellsOf 9 = 1 := by kernel_rfl

/-- the cells of an array of strings, off its reading -/
theorem strs_of_array {H : Type} {enc : TypeId × Value → H} {P : Program} {w : World} {base : Nat} {sp : Nat → Bool} {hd : Bool} {t e n fuel : Nat} {cs : List Value} {x : DataW H × List MemPlace} (ht : P.underlying t = some (.array n e)) (he : P.underlying e = some .string) (ce : P.cellsOf e = 1)
    (h : DataW.trod enc P w base sp hd fuel t cs = some x) {bs : List (List UInt8)} (hx : x.1 = .agg (bs.map fun b => .lit (.string b))) :
    bs.length = n ∧ ∀ i, i < n → cs[i]? = some (.string ⟨(bs.getD i []).toArray⟩) := by
  obtain ⟨xs, m, rfl, rfl, hlen, hn, hel⟩ := DataW.trod_array ht h
  simp only [DataW.agg.injEq] at hx
  have hbl : bs.length = n := by have := congrArg List.length hx; simp at this; omega
  refine ⟨hbl, fun i hi => ?_⟩
  have h1 := hel i hi
  rw [ce, Nat.mul_one] at h1
  rw [List.getElem?_eq_getElem (by omega)] at h1
  obtain ⟨s, hs, hxi, _⟩ := DataW.trod_string he h1
  have h2 : (xs.map (·.1))[i]? = (bs.map fun b => (DataW.lit (.string b) : DataW H))[i]? := by rw [hx]
  rw [List.getElem?_map, List.getElem?_map, List.getElem?_eq_getElem (by omega), List.getElem?_eq_getElem (by omega), hxi] at h2
  simp at h2
  have h3 : cs[i]? = some (.string s) := by
    have := congrArg List.head? hs
    rw [List.head?_take, List.head?_drop] at this
    simpa using this
  rw [h3, List.getD_eq_getElem?_getD, List.getElem?_eq_getElem (by omega)]
  simp [← h2]

theorem of_laid {W : World} (h : laidMetH Tryd.prog [("redline/kinds.names", Rows.laid_redline_kinds_names)] W) : Laid W := by
  rw [MakeChecks.laidMetH_plain _ _ _ (by kernel_rfl)] at h
  obtain ⟨ps, ⟨g0, t0, cs0, f0, p0, q0, hg0, ht0, hv0, hd0, _⟩, _⟩ := h
  obtain rfl := Option.some.inj (gNames.symm.trans hg0)
  obtain rfl := Option.some.inj (tNames.symm.trans ht0)
  have hc := strs_of_array Tryd.underlying34 Tryd.underlying9 cString hd0 (bs := nameBytes) names_data
  have hcell := fun i => World.var?_cell hg0 hv0 i
  refine ⟨?_, fun i hi => ?_⟩
  · have := hc.2 0 (by decide)
    have h2 := hcell 0
    rw [Array.getElem?_toList] at this
    rw [this] at h2
    exact World.block_lt_of_cell? W _ h2
  · have := hc.2 i hi
    rw [Array.getElem?_toList] at this
    rw [hcell i, this]; rfl

end Go.Proofs.YthbodncgppfdfaaDoor
