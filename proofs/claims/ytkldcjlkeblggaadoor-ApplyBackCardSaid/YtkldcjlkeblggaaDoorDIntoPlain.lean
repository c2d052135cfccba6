/- What holds at a round of apply.into and of apply.book. -/
import Derived.Test.YtkldcjlkeblggaaDoorDLoop
namespace Go.Proofs.YtkldcjlkeblggaaDoor
open Go.RowKit
open Val (V E cmp right eright esm esmF esmK v0 Res ado adoF adoK get find withV putV vmx vmxL esz eszF eszK partB stepB allF allK mkL KI KP KeysOf headKind setRest)
set_option linter.unusedVariables false

def Val.intoT (f : List (Int × E)) (r : Bool) (ro rn : ByteArray) (v : V) : Res V := match adoF f v with
  | .bad b => .bad b
  | .ok w => if r = true then (if w.rest = ro then .ok (setRest w rn) else .bad 13) else .ok w
def IntoInv (f : List (Int × E)) (v : V) (k : Nat) (y : V) : Prop := adoF f v = adoF (f.drop k) y ∧ right y = true ∧ y.kind = 3 ∧ vmx y + eszF (f.drop k) ≤ 90000
theorem IntoInv.start {f : List (Int × E)} {v : V} (hr : right v = true) (hk : v.kind = 3) (hb : vmx v + eszF f ≤ 90000) : IntoInv f v 0 v := ⟨by simp, hr, hk, by simpa using hb⟩
theorem IntoInv.drop {f : List (Int × E)} {v y : V} {k : Nat} (h : IntoInv f v k y) (hk : k < f.length) : adoF f v = match ado f[k].2 (get y f[k].1) with
    | .bad b => .bad b
    | .ok x => adoF (f.drop (k + 1)) (withV y f[k].1 x) := by
  rw [h.1, List.drop_eq_getElem_cons hk]
  generalize f[k] = q
  obtain ⟨a, b⟩ := q
  rw [adoF]
  simp only
  cases ado b (get y a) <;> rfl
theorem IntoInv.bad {f : List (Int × E)} {v y : V} {k b : Nat} (h : IntoInv f v k y) (hk : k < f.length) (hr : ado f[k].2 (get y f[k].1) = .bad b) (r : Bool) (ro rn : ByteArray) : Val.intoT f r ro rn v = .bad b := by
  unfold Val.intoT
  rw [h.drop hk, hr]
theorem IntoInv.step {f : List (Int × E)} {v y x : V} {k : Nat} (h : IntoInv f v k y) (hk : k < f.length) (hall : allF f) (hr : ado f[k].2 (get y f[k].1) = .ok x) : IntoInv f v (k + 1) (withV y f[k].1 x) := by
  have ha := hall _ (List.getElem_mem hk)
  have hx := Val.ado_right _ _ _ ha.2 (Val.right_get h.2.1 h.2.2.1 ha.1) hr
  refine ⟨by rw [h.drop hk, hr], Val.right_with h.2.1 h.2.2.1 ha.1 hx, Val.kind_with h.2.2.1, ?_⟩
  have h1 := h.2.2.2
  rw [List.drop_eq_getElem_cons hk] at h1
  have h2 := Val.ado_vmx _ _ _ hr
  have h3 := Val.get_vmx y f[k].1
  have h4 := Val.with_vmx y f[k].1 x
  generalize f[k] = q at *
  obtain ⟨a, b⟩ := q
  rw [eszF] at h1
  simp only at h2 h3 h4 ⊢
  omega
theorem IntoInv.sizes {f : List (Int × E)} {v y : V} {k : Nat} (h : IntoInv f v k y) (hk : k < f.length) : vmx (get y f[k].1) + esz f[k].2 ≤ 90000 ∧ y.fields.length < 100000 := by
  have h1 := h.2.2.2
  rw [List.drop_eq_getElem_cons hk] at h1
  have h3 := Val.get_vmx y f[k].1
  have h4 := Val.vmx_parts y
  generalize f[k] = q at *
  obtain ⟨a, b⟩ := q
  rw [eszF] at h1
  simp only at h3 ⊢
  omega
theorem IntoInv.fin {f : List (Int × E)} {v y : V} (h : IntoInv f v f.length y) : adoF f v = .ok y := by
  rw [h.1, List.drop_length, adoF]

def BookInv (f : List (V × E)) (v : V) (k : Nat) (y : V) : Prop := adoK f v = adoK (f.drop k) y ∧ right y = true ∧ (y.kind = 5 ∨ y.kind = 0) ∧ vmx y + eszK (f.drop k) ≤ 90000
theorem BookInv.start {f : List (V × E)} {v : V} (hr : right v = true) (hk : v.kind = 5 ∨ v.kind = 0) (hb : vmx v + eszK f ≤ 90000) : BookInv f v 0 v := ⟨by simp, hr, hk, by simpa using hb⟩
/-- one key done -/
def Val.keyR (q : V × E) (y : V) : Res V := if headKind y q.1 then .bad 13 else match ado q.2 (find y q.1) with
    | .bad b => .bad b
    | .ok x => if x.kind ≠ 0 ∧ ¬ (1 ≤ x.kind ∧ x.kind ≤ 3) then .bad 12 else .ok (putV y q.1 x)
theorem BookInv.drop {f : List (V × E)} {v y : V} {k : Nat} (h : BookInv f v k y) (hk : k < f.length) : adoK f v = match Val.keyR f[k] y with
    | .bad b => .bad b
    | .ok x => adoK (f.drop (k + 1)) x := by
  rw [h.1, List.drop_eq_getElem_cons hk]
  generalize f[k] = q
  obtain ⟨a, b⟩ := q
  rw [adoK]
  unfold Val.keyR
  simp only
  split
  · rfl
  · cases ado b (find y a) with
    | bad n => rfl
    | ok x =>
      simp only
      split <;> rfl
theorem BookInv.bad {f : List (V × E)} {v y : V} {k b : Nat} (h : BookInv f v k y) (hk : k < f.length) (hr : Val.keyR f[k] y = .bad b) : adoK f v = .bad b := by
  rw [h.drop hk, hr]
theorem part_none {x : V} (hy : right x = true) (hk : ¬ (x.kind ≠ 0 ∧ ¬ (1 ≤ x.kind ∧ x.kind ≤ 3))) : x.kind = 0 ∨ partB x = true := by
  by_cases h0 : x.kind = 0
  · exact .inl h0
  · refine .inr (Val.part_of ?_ hy)
    by_cases h3 : 1 ≤ x.kind ∧ x.kind ≤ 3
    · exact h3
    · exact absurd ⟨h0, h3⟩ hk
theorem BookInv.step {f : List (V × E)} {v y z : V} {k : Nat} (h : BookInv f v k y) (hk : k < f.length) (hall : allK f) (hr : Val.keyR f[k] y = .ok z) : BookInv f v (k + 1) z := by
  have ha := hall _ (List.getElem_mem hk)
  have hd := h.drop hk
  rw [hr] at hd
  have h1 := h.2.2.2
  rw [List.drop_eq_getElem_cons hk] at h1
  unfold Val.keyR at hr
  split at hr
  · cases hr
  rename_i hh
  have hO := Val.kinds_of h.2.1 h.2.2.1 hh
  cases hE : ado f[k].2 (find y f[k].1) with
  | bad b => rw [hE] at hr; cases hr
  | ok x =>
    rw [hE] at hr
    simp only at hr
    split at hr
    · cases hr
    rename_i hk2
    cases hr
    have hx := Val.ado_right _ _ _ ha.2 (Val.right_find h.2.1 hO ha.1) hE
    have hp := part_none hx hk2
    refine ⟨hd, Val.right_put hO ha.1 hp, (Val.keys_put hO ha.1 hp).1, ?_⟩
    have h2 := Val.ado_vmx _ _ _ hE
    have h3 := Val.find_vmx y f[k].1
    have h4 := Val.put_vmx y f[k].1 x
    generalize f[k] = q at *
    obtain ⟨a, b⟩ := q
    rw [eszK] at h1
    simp only at h2 h3 h4 ⊢
    omega
theorem BookInv.sizes {f : List (V × E)} {v y : V} {k : Nat} (h : BookInv f v k y) (hk : k < f.length) : vmx (find y f[k].1) + esz f[k].2 ≤ 90000 ∧ y.pairs.length < 100000 := by
  have h1 := h.2.2.2
  rw [List.drop_eq_getElem_cons hk] at h1
  have h3 := Val.find_vmx y f[k].1
  have h4 := Val.vmx_parts y
  generalize f[k] = q at *
  obtain ⟨a, b⟩ := q
  rw [eszK] at h1
  simp only at h3 ⊢
  omega
theorem BookInv.fin {f : List (V × E)} {v y : V} (h : BookInv f v f.length y) : adoK f v = .ok y := by
  rw [h.1, List.drop_length, adoK]

end Go.Proofs.YtkldcjlkeblggaaDoor
