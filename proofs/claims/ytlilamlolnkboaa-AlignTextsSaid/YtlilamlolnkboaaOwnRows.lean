/- Rows of numbers, and rows of such rows, that a call owns. -/
import Derived.Test.YtlilamlolnkboaaAppend
namespace Go.Proofs.Ytlilamlolnkboaa
open Go.RowKit Go.WideShapes
set_option linter.unusedVariables false

theorem sizeInt (w : World) : (Go.sizeOf (Try.prog.elem 40)).run Try.prog w = .ok 1 w := by kernel_rfl
theorem sizeIntss (w : World) : (Go.sizeOf (Try.prog.elem 35)).run Try.prog w = .ok 1 w := by kernel_rfl
theorem T_ints : SliceT Try.prog 40 3 (.int .i64 0) 1 8 := ⟨Try.underlying40, by kernel_rfl, rfl, by decide, by decide⟩
theorem T_intss : SliceT Try.prog 35 40 (.slice none 0 0) 1 24 := ⟨Try.underlying35, by kernel_rfl, rfl, by decide, by decide⟩
theorem types_ne : 3 ≠ 40 := by decide
def intVals (zs : List Int) : List Value := zs.map (.int .i64)
theorem mid_cell {rk : List Int} {r k : Nat} (hk : rk.length = k) (h : 0 < r) : (intVals rk ++ List.replicate r (Value.int .i64 0))[k]? = some (.int .i64 0) := by
  subst hk
  rw [List.getElem?_append_right (by simp [intVals])]
  simp [intVals, h]
theorem mid_set {rk : List Int} {r r' k : Nat} (hk : rk.length = k) (h : r = r' + 1) (x : Int) : (intVals rk ++ List.replicate r (Value.int .i64 0)).set k (.int .i64 x) = intVals (rk ++ [x]) ++ List.replicate r' (Value.int .i64 0) := by
  subst hk h
  rw [List.replicate_succ, List.set_append_right _ _ (by simp [intVals])]
  simp [intVals]

/-- rows that are done -/
def Done (h : Frag) (vs : List Value) (rows : List (List Int)) : Prop := vs.length = rows.length ∧ ∀ x (hv : x < vs.length) (hx : x < rows.length), ListV IntR h vs[x] rows[x]
theorem Done.mono {h h' : Frag} {vs : List Value} {rows : List (List Int)} (hd : Done h vs rows) (hl : FLe h h') : Done h' vs rows :=
  ⟨hd.1, fun x hv hx => ListV.mono IntR.mono (hd.2 x hv hx) hl⟩
theorem Done.snoc {h : Frag} {vs : List Value} {rows : List (List Int)} (hd : Done h vs rows) {v : Value} {r : List Int} (hv : ListV IntR h v r) : Done h (vs ++ [v]) (rows ++ [r]) := by
  refine ⟨by simp [hd.1], fun x h1 h2 => ?_⟩
  have he := hd.1
  by_cases e : x < vs.length
  · rw [List.getElem_append_left e, List.getElem_append_left (by omega)]; exact hd.2 x e (by omega)
  · simp only [List.length_append, List.length_cons, List.length_nil] at h1
    obtain rfl : x = vs.length := by omega
    rw [List.getElem_append_right (by omega), List.getElem_append_right (by omega)]
    simpa using hv
theorem Done.front {h : Frag} {vs : List Value} {rows : List (List Int)} {v : Value} {r : List Int} (hd : Done h (vs ++ [v]) (rows ++ [r])) : Done h vs rows := by
  have h1 := hd.1
  simp only [List.length_append, List.length_cons, List.length_nil] at h1
  refine ⟨by omega, fun x hv hx => ?_⟩
  have := hd.2 x (by simp; omega) (by simp; omega)
  rwa [List.getElem_append_left hv, List.getElem_append_left hx] at this

theorem ListV.nil {α : Type} (R : Frag → Value → α → Prop) (h : Frag) : ListV R h (.slice none 0 0) [] := ⟨none, 0, [], rfl, Nat.le_refl _, Nat.zero_le _, fun _ => rfl, .inl rfl, rfl, fun i hv => by simp at hv⟩

theorem own_ge {w : World} {base : Nat} {e : TypeId} {size : Nat} {v : Value} {n : Nat} {xs : List Value} (h : w.ownsRow base e size v n xs) : ∀ k, v.ownBlock = some k → base ≤ k := fun k hk => (h.lt k hk).1

end Go.Proofs.Ytlilamlolnkboaa
