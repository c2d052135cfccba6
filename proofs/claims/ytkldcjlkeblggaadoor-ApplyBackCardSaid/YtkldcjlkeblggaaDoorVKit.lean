/- The tables' facts of values' types. -/
import Derived.Test.YtkldcjlkeblggaaDoorVRep
import Derived.Test.YtkldcjlkeblggaaDoorGroupA
namespace Go.Proofs.YtkldcjlkeblggaaDoor
open Go.RowKit

theorem sizeFld (w : World) : (Go.sizeOf (Tryd.prog.elem 23)).run Tryd.prog w = .ok 8 w := by kernel_rfl
theorem sizeVal (w : World) : (Go.sizeOf (Tryd.prog.elem 24)).run Tryd.prog w = .ok 7 w := by kernel_rfl
theorem sizePar (w : World) : (Go.sizeOf (Tryd.prog.elem 25)).run Tryd.prog w = .ok 14 w := by kernel_rfl
theorem list7 {α : Type} {l : List α} (h : l.length = 7) : ∃ a b c d e f g, l = [a, b, c, d, e, f, g] := by
  match l, h with
  | [a, b, c, d, e, f, g], _ => exact ⟨a, b, c, d, e, f, g, rfl⟩
theorem list8 {α : Type} {l : List α} (h : l.length = 8) : ∃ a b c d e f g i, l = [a, b, c, d, e, f, g, i] := by
  match l, h with
  | [a, b, c, d, e, f, g, i], _ => exact ⟨a, b, c, d, e, f, g, i, rfl⟩
theorem list14 {α : Type} {l : List α} (h : l.length = 14) : ∃ a b c d e f g a' b' c' d' e' f' g', l = [a, b, c, d, e, f, g, a', b', c', d', e', f', g'] := by
  match l, h with
  | [a, b, c, d, e, f, g, a', b', c', d', e', f', g'], _ => exact ⟨a, b, c, d, e, f, g, a', b', c', d', e', f', g', rfl⟩

end Go.Proofs.YtkldcjlkeblggaaDoor
