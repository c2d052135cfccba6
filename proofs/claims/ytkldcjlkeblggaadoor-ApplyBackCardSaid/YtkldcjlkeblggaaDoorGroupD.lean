/- Regions that draw and end in one store: what holds of the world is asked only as long as the last operation has not come up (after the kit's law on held regions). -/
import Derived.Test.YtkldcjlkeblggaaDoorMid
import Derived.OrdersHeld
import Derived.Deep.RegionHeld
import Derived.Test.YtkldcjlkeblggaaDoorGroupA
import Derived.Test.YtkldcjlkeblggaaDoorVRep
import Derived.Deep.AppendLies
import Derived.Laws.OwnMore

namespace Go.Proofs.YtkldcjlkeblggaaDoor
open Go.RowKit
set_option linter.unusedVariables false

section
variable {P : Program} {ops : Array Oper} {Q : Exit → Act → World → Prop} {md : Region.Mode} {S : World → Prop} {fin : Nat}

/-- whatever order is picked from here on; S holds behind each operation, as long as 'fin' has not come up -/
def wpAnyF (P : Program) (md : Region.Mode) (ops : Array Oper) (Q : Exit → Act → World → Prop) (S : World → Prop) (fin : Nat) : Nat → Array Bool → Act → World → Prop
  | 0, listed, a, w => Region.ready md ops listed = [] ∧ Q .normal a w
  | fuel + 1, listed, a, w =>
    (Region.ready md ops listed = [] → Q .normal a w) ∧
    ∀ i ∈ Region.ready md ops listed, wpOp P ops Q i (fun a' w' => ((listed.setIfInBounds i true).getD fin true = false → S w') ∧ wpAnyF P md ops Q S fin fuel (listed.setIfInBounds i true) a' w') a w
theorem wpAny_of_F : ∀ (fuel : Nat) (listed : Array Bool) (a : Act) (w : World), wpAnyF P md ops Q S fin fuel listed a w → wpAny P md ops Q fuel listed a w
  | 0, _, _, _, h => h
  | fuel + 1, _, _, _, h => ⟨h.1, fun i hi => wpOp_mono (fun a' w' h' => wpAny_of_F fuel _ a' w' h'.2) (h.2 i hi)⟩
/-- does 'fin' wait for 'i'? -/
def waitsB (md : Region.Mode) (ops : Array Oper) (fin i : Nat) : Bool := match ops[fin]? with
  | some o => o.after.any fun e => Region.binds md e && (e.on == i)
  | none => false
theorem getD_set_ne2 {l : Array Bool} {j k : Nat} {d : Bool} (h : j ≠ k) : (l.setIfInBounds j true).getD k d = l.getD k d := by
  simp [Array.getD_eq_getD_getElem?, h]

theorem wpAnyF_first {i : Nat} {oi : Oper} {v : Value} (hi : ops[i]? = some oi) (hsel : ∀ (j : Nat) (o : Oper) cs b, ops[j]? = some o → o.op ≠ .select cs b)
    (hQ : ∀ c a w, Q (.panic c) (a.put oi.dst v) w → Q (.panic c) a w) (hwt : waitsB md ops fin i = true) (hfi : fin ≠ i) :
    ∀ (fuel : Nat) (listed : Array Bool) (a : Act) (w : World), listed.getD fin true = false →
      (∀ j oj, ops[j]? = some oj → j ≠ i → listed.getD j true = false → (∀ e ∈ oj.after, Region.binds md e = true → e.on ≠ i) → oi.apart ops oj = true) →
      i ∈ Region.ready md ops listed → YieldsIf P ops S oi v a → S w →
      wpAnyF P md ops Q S fin fuel (listed.setIfInBounds i true) (a.put oi.dst v) w → wpAnyF P md ops Q S fin (fuel + 1) listed a w := by
  intro fuel
  induction fuel with
  | zero =>
    intro listed a w hfin _ hr hy hS H
    refine ⟨fun h => (by rw [h] at hr; cases hr), fun j hj => ?_⟩
    by_cases hji : j = i
    · subst hji; exact hy.wpOp hi hS ⟨fun _ => hS, H⟩
    · have := ready_mono hj hji
      rw [H.1] at this
      cases this
  | succ fuel ih =>
    intro listed a w hfin hfree hr hy hS H
    refine ⟨fun h => (by rw [h] at hr; cases hr), fun j hj => ?_⟩
    by_cases hji : j = i
    · subst hji; exact hy.wpOp hi hS ⟨fun _ => hS, H⟩
    · have h1 := H.2 j (ready_mono hj hji)
      obtain ⟨hjun, oj, hoj, hall⟩ := mem_ready.1 hj
      have hnot : ∀ e ∈ oj.after, Region.binds md e = true → e.on ≠ i := fun e he hb heq => by
        have h1 := hall e he hb
        have h0 := (mem_ready.1 hr).1
        rw [heq] at h1
        rcases Nat.lt_or_ge i listed.size with h' | h'
        · simp [h'] at h0 h1; rw [h0] at h1; cases h1
        · simp [Array.getElem?_eq_none h'] at h1
      have hjf : j ≠ fin := fun e => by
        subst e
        unfold waitsB at hwt
        rw [hoj] at hwt
        simp only [Array.any_eq_true, Bool.and_eq_true, beq_iff_eq] at hwt
        obtain ⟨q, hq, hb, hon⟩ := hwt
        exact hnot _ (Array.getElem_mem hq) hb hon
      have h2 := wpOp_putIf hoj (hfree j oj hoj hji hjun hnot) (fun cs b => hsel i oi cs b hi) (fun cs b => hsel j oj cs b hoj) hQ hy h1
      have hfree' : ∀ k ok, ops[k]? = some ok → k ≠ i → (listed.setIfInBounds j true).getD k true = false →
          (∀ e ∈ ok.after, Region.binds md e = true → e.on ≠ i) → oi.apart ops ok = true := fun k ok hk hki hun hno => by
        refine hfree k ok hk hki ?_ hno
        by_cases hjk : j = k
        · subst hjk; exact hjun
        · rw [getD_set_ne2 hjk] at hun; exact hun
      have hf2 : (listed.setIfInBounds j true).getD fin true = false := by rw [getD_set_ne2 hjf]; exact hfin
      have hf3 : ((listed.setIfInBounds i true).setIfInBounds j true).getD fin true = false := by rw [getD_set_ne2 hjf, getD_set_ne2 (fun e => hfi e.symm)]; exact hfin
      refine wpOp_mono (fun a' w' h3 => ⟨fun _ => h3.2.1 hf3, ih (listed.setIfInBounds j true) a' w' hf2 hfree' (ready_mono hr (Ne.symm hji)) h3.1 (h3.2.1 hf3) ?_⟩) h2
      rw [Array.setIfInBounds_comm _ _ hji]
      exact h3.2.2
theorem wpAnyF_take {i : Nat} {oi : Oper} {v : Value} {fuel : Nat} {listed : Array Bool} {a : Act} {w : World} (hi : ops[i]? = some oi)
    (hs : Region.noSelect ops = true) (hf : Region.free md ops listed i = true) (hr : (Region.ready md ops listed).contains i = true) (hwt : (waitsB md ops fin i && (fin != i) && !(listed.getD fin true)) = true)
    (hQ : ∀ c a w, Q (.panic c) (a.put oi.dst v) w → Q (.panic c) a w) (hy : YieldsIf P ops S oi v a) (hS : S w)
    (h : wpAnyF P md ops Q S fin fuel (listed.setIfInBounds i true) (a.put oi.dst v) w) : wpAnyF P md ops Q S fin (fuel + 1) listed a w := by
  simp only [Bool.and_eq_true, Bool.not_eq_true', bne_iff_ne] at hwt
  exact wpAnyF_first hi (Region.noSelect_spec hs) hQ hwt.1.1 hwt.1.2 fuel listed a w hwt.2 (Region.free_spec hi hf) (by simpa using hr) hy hS h
def AllReadyF (P : Program) (md : Region.Mode) (ops : Array Oper) (Q : Exit → Act → World → Prop) (S : World → Prop) (fin : Nat) (fuel : Nat) (listed : Array Bool) (a : Act) (w : World) (rs : List Nat) : Prop :=
  ∀ i ∈ rs, wpOp P ops Q i (fun a' w' => ((listed.setIfInBounds i true).getD fin true = false → S w') ∧ wpAnyF P md ops Q S fin fuel (listed.setIfInBounds i true) a' w') a w
theorem AllReadyF.nil {fuel : Nat} {listed : Array Bool} {a : Act} {w : World} : AllReadyF P md ops Q S fin fuel listed a w [] := fun _ h => by cases h
theorem AllReadyF.cons {fuel : Nat} {listed : Array Bool} {a : Act} {w : World} {i : Nat} {o : Oper} {rs : List Nat} (ho : ops[i]? = some o)
    (h : ∀ K' : Act → World → Prop, Shut (∀ a w, ((listed.setIfInBounds i true).getD fin true = false → S w) → (((listed.setIfInBounds i true).getD fin true = false → S w) → wpAnyF P md ops Q S fin fuel (listed.setIfInBounds i true) a w) → K' a w) → if Region.wanted o (yielded ops a.tmps) = true then Oper.wp P o a w K' Q else K' (a.put o.dst undef) w)
    (hs : AllReadyF P md ops Q S fin fuel listed a w rs) : AllReadyF P md ops Q S fin fuel listed a w (i :: rs) := fun j hj => by
  rcases List.mem_cons.1 hj with rfl | hj
  · exact wpOp_step ho (fun K' hK => h K' (fun a w hS hW => hK a w ⟨hS, hW hS⟩))
  · exact hs j hj
theorem wpAnyF_ready {rs : List Nat} {fuel : Nat} {listed : Array Bool} {a : Act} {w : World} (hr : Region.ready md ops listed = rs) (hne : rs ≠ [])
    (h : AllReadyF P md ops Q S fin fuel listed a w rs) : wpAnyF P md ops Q S fin (fuel + 1) listed a w := ⟨fun h0 => absurd (hr ▸ h0) hne, hr ▸ h⟩
theorem wpAnyF_done {listed : Array Bool} {a : Act} {w : World} (hr : Region.ready md ops listed = []) (h : Q .normal a w) : ∀ fuel, wpAnyF P md ops Q S fin fuel listed a w
  | 0 => ⟨hr, h⟩
  | _ + 1 => ⟨fun _ => h, by rw [hr]; simp⟩
/-- the beginning -/
theorem wp_region_F {id : Nat} {a : Act} {w : World} (fin : Nat) (S : World → Prop) (hm : P.follows .mixedOrders = true) (hS : S w.drew)
    (h : S w.drew → wpAnyF P .any ops Q S fin ops.size (Array.replicate ops.size false) a w.drew) : (Code.region id ops true).wp P Q a w :=
  wp_region_any hm (wpAny_of_F _ _ _ _ (h hS))
end

end Go.Proofs.YtkldcjlkeblggaaDoor

/- Structs built of parts whose cells are not named; slices of one element. -/
namespace Go.Proofs.YtkldcjlkeblggaaDoor
open Go.RowKit
set_option linter.unusedVariables false

theorem fold_set (off : Nat) : ∀ (vs : List Value) (k : Nat) (cs : List Value), off + k + vs.length ≤ cs.length →
    (vs.zipIdx k).foldl (fun (cs : Array Value) (x : Value × Nat) => cs.setIfInBounds (off + x.2) x.1) cs.toArray = (patch cs (off + k) vs).toArray
  | [], k, cs, h => by simp [patch_nil]
  | v :: r, k, cs, h => by
    have hl : off + k < cs.length := by simp at h; omega
    rw [List.zipIdx_cons, List.foldl_cons]
    have e : cs.toArray.setIfInBounds (off + k) v = (cs.set (off + k) v).toArray := by simp
    simp only
    rw [e, fold_set off r (k + 1) (cs.set (off + k) v) (by simp at h ⊢; omega), ← Nat.add_assoc, patch_cons hl]
theorem fill_part {place : Nat → Option (Nat × Nat)} {i off : Nat} {v : Value} {vs cs : List Value} {rest : List (Nat × Value)} (hp : place i = some (off, vs.length)) (hv : v.cells = vs.toArray) (hl : off + vs.length ≤ cs.length) :
    Instr.fill place cs.toArray ((i, v) :: rest) = Instr.fill place (patch cs off vs).toArray rest := by
  rw [Instr.fill, hp]
  simp only [hv, List.size_toArray]
  rw [if_neg (by simp; omega)]
  have := fold_set off vs 0 cs (by omega)
  rw [Nat.add_zero] at this
  rw [← this]
  congr 1
  rw [← Array.foldl_toList]
  simp

/-- a struct of two parts that fill it -/
theorem run_build2 {P : Program} {t : TypeId} {f0 f1 : Field} {zs c0 c1 : List Value} {v0 v1 : Value} (ht : P.underlying t = some (.struct #[f0, f1])) (hz : (P.info? t).map (·.zero) = some (some (.agg zs.toArray)))
    (h0 : f0.offset = 0) (h1 : f1.offset = c0.length) (s0 : (P.info? f0.type).map (·.size) = some c0.length) (s1 : (P.info? f1.type).map (·.size) = some c1.length) (hl : zs.length = c0.length + c1.length)
    (e0 : v0.cells = c0.toArray) (e1 : v1.cells = c1.toArray) (w : World) : (Instr.build t #[(0, v0), (1, v1)]).run P w = .ok (.agg (c0 ++ c1).toArray) w := by
  obtain ⟨i, hi, hzi⟩ := Option.map_eq_some_iff.1 hz
  obtain ⟨i0, hi0, hs0⟩ := Option.map_eq_some_iff.1 s0
  obtain ⟨i1, hi1, hs1⟩ := Option.map_eq_some_iff.1 s1
  have hf : Instr.fill (fun x => ([(f0.offset, i0.size), (f1.offset, i1.size)] : List (Nat × Nat))[x]?) zs.toArray [(0, v0), (1, v1)] = some (c0 ++ c1).toArray := by
    rw [fill_part (off := 0) (vs := c0) (by simp [h0, hs0]) e0 (by omega), fill_part (off := c0.length) (vs := c1) (by simp [h1, hs1]) e1 (by rw [patch_len (by omega)]; omega), Instr.fill]
    congr 2
    unfold patch
    simp only [List.take_zero, List.nil_append, Nat.zero_add]
    rw [List.take_left' rfl, List.drop_append, List.drop_of_length_le (by omega), List.drop_drop, List.drop_of_length_le (by omega)]
    simp
  unfold Instr.build
  simp [Go.zeroValue, typeInfo, hi, hzi, run_underlying ht, Go.sizeOf, hi0, hi1, Result.andThen, Value.cells]
  rw [hf]
  simp

/-- a slice of one element that is given whole -/
theorem run_buildSlice1 {P : Program} {t e : TypeId} {c0 : List Value} {v0 : Value} (ht : P.underlying t = some (.slice e)) (hz : (P.info? e).map (fun i => (i.size, i.zero.map (fun z => z.cells.size))) = some (c0.length, some c0.length))
    (h0 : 0 < c0.length) (hb : c0.length ≤ 1000) (e0 : v0.cells = c0.toArray) (w : World) : (Instr.buildSlice t 1 #[(0, v0)]).run P w = .ok (.slice (some ⟨w.heap.size, 0, none⟩) 1 1) (w.alloc (.cells c0.toArray e)) := by
  obtain ⟨i, hi, hzi⟩ := Option.map_eq_some_iff.1 hz
  simp only [Prod.mk.injEq, Option.map_eq_some_iff] at hzi
  obtain ⟨hs, z, hz1, hz2⟩ := hzi
  have hf : ∀ zs : List Value, zs.length = c0.length → Instr.fill (fun x => some (x * c0.length, c0.length)) zs.toArray [(0, v0)] = some c0.toArray := fun zs hl => by
    rw [fill_part (off := 0) (vs := c0) (by simp) e0 (by omega), Instr.fill]
    congr 2
    unfold patch
    simp only [List.take_zero, List.nil_append, Nat.zero_add]
    rw [List.drop_of_length_le (by omega)]; simp
  unfold Instr.buildSlice
  simp [run_underlying ht, Go.sizeOf, typeInfo, hi, hs, Result.andThen, Go.zeroValue, hz1]
  rw [if_neg (by omega), if_neg (by intro e; simp [e] at h0)]
  have e := hf (Array.map (fun x => z.cells[x % z.cells.size]!) (Array.range c0.length)).toList (by simp)
  rw [Array.toArray_toList] at e
  rw [e]
  simp [newRow]

section
variable {P : Program} {ops : Array Oper} {Q : Exit → Act → World → Prop} {S : World → Prop}
theorem yieldsIf_build2 {op : Oper} {a : Act} (hw : Region.wanted op (yielded ops a.tmps) = true) (t : TypeId) (x y : Operand) (ho : op.op = .build t #[(0, x), (1, y)]) {f0 f1 : Field} {zs : List Value} (c0 c1 : List Value) (v0 v1 : Value) (hx : a.eval x = v0) (hy : a.eval y = v1)
    (ht : P.underlying t = some (.struct #[f0, f1])) (hz : (P.info? t).map (·.zero) = some (some (.agg zs.toArray)))
    (h0 : f0.offset = 0) (h1 : f1.offset = c0.length) (s0 : (P.info? f0.type).map (·.size) = some c0.length) (s1 : (P.info? f1.type).map (·.size) = some c1.length) (hl : zs.length = c0.length + c1.length)
    (e0 : v0.cells = c0.toArray) (e1 : v1.cells = c1.toArray) : YieldsIf P ops S op (.agg (c0 ++ c1).toArray) a :=
  .inl ⟨hw, fun w _ => by
    unfold execOp
    simp only [ho, List.map_toArray, List.map_cons, List.map_nil, hx, hy, Sem.run_bind, Sem.run_pure, run_build2 ht hz h0 h1 s0 s1 hl e0 e1 w, Result.andThen_ok]⟩
theorem wp_buildSlice1 {op : Oper} {a : Act} {w : World} {K : Act → World → Prop} (t e : TypeId) (x : Operand) (ho : op.op = .buildSlice t 1 #[(0, x)]) (c0 : List Value) (v0 : Value) (hx : a.eval x = v0) (ht : P.underlying t = some (.slice e))
    (hz : (P.info? e).map (fun i => (i.size, i.zero.map (fun z => z.cells.size))) = some (c0.length, some c0.length)) (h0 : 0 < c0.length) (hb : c0.length ≤ 1000) (e0 : v0.cells = c0.toArray)
    (h : K (a.put op.dst (.slice (some ⟨w.heap.size, 0, none⟩) 1 1)) (w.alloc (.cells c0.toArray e))) : op.wp P a w K Q := by
  unfold Oper.wp execOp
  simp only [ho, List.map_toArray, List.map_cons, List.map_nil, hx, Sem.run_bind, Sem.run_pure, run_buildSlice1 ht hz h0 hb e0 w, Result.andThen_ok]
  exact h
end

end Go.Proofs.YtkldcjlkeblggaaDoor

/- Regions that draw: what holds always, and what holds as long as one operation has not come up; what yields is taken first. -/
namespace Go.Proofs.YtkldcjlkeblggaaDoor
open Go.RowKit
set_option linter.unusedVariables false

section
variable {P : Program} {ops : Array Oper} {Q : Exit → Act → World → Prop} {md : Region.Mode} {P0 P1 : World → Prop} {fin : Nat}

/-- what holds: P0 always; P1 as long as 'fin' has not come up -/
def InvG (P0 P1 : World → Prop) (fin : Nat) (listed : Array Bool) (w : World) : Prop := P0 w ∧ (listed.getD fin false = false → P1 w)
def wpAnyG (P : Program) (md : Region.Mode) (ops : Array Oper) (Q : Exit → Act → World → Prop) (P0 P1 : World → Prop) (fin : Nat) : Nat → Array Bool → Act → World → Prop
  | 0, listed, a, w => Region.ready md ops listed = [] ∧ Q .normal a w
  | fuel + 1, listed, a, w =>
    (Region.ready md ops listed = [] → Q .normal a w) ∧
    ∀ i ∈ Region.ready md ops listed, wpOp P ops Q i (fun a' w' => InvG P0 P1 fin (listed.setIfInBounds i true) w' ∧ wpAnyG P md ops Q P0 P1 fin fuel (listed.setIfInBounds i true) a' w') a w
theorem wpAny_of_G : ∀ (fuel : Nat) (listed : Array Bool) (a : Act) (w : World), wpAnyG P md ops Q P0 P1 fin fuel listed a w → wpAny P md ops Q fuel listed a w
  | 0, _, _, _, h => h
  | fuel + 1, _, _, _, h => ⟨h.1, fun i hi => wpOp_mono (fun a' w' h' => wpAny_of_G fuel _ a' w' h'.2) (h.2 i hi)⟩
/-- does 'j' wait for 'i', at once or through others? -/
def waitsT (md : Region.Mode) (ops : Array Oper) (i : Nat) : Nat → Nat → Bool
  | 0, _ => false
  | n + 1, j => match ops[j]? with
    | some o => o.after.any fun e => Region.binds md e && (e.on == i || waitsT md ops i n e.on)
    | none => false
def ClosedG (md : Region.Mode) (ops : Array Oper) (listed : Array Bool) : Prop := ∀ j oj, ops[j]? = some oj → listed.getD j false = true → ∀ e ∈ oj.after, Region.binds md e = true → listed.getD e.on false = true
def closedB (md : Region.Mode) (ops : Array Oper) (listed : Array Bool) : Bool := (List.range ops.size).all fun j => match ops[j]? with
  | some oj => !(listed.getD j false) || oj.after.all fun e => !(Region.binds md e) || listed.getD e.on false
  | none => true
theorem closedB_spec {listed : Array Bool} (h : closedB md ops listed = true) : ClosedG md ops listed := by
  intro j oj hj hl e he hb
  have h1 := List.all_eq_true.1 h j (List.mem_range.2 (Array.getElem?_eq_some_iff.1 hj).1)
  simp only [hj, hl, Bool.not_true, Bool.false_or] at h1
  have h2 := Array.all_eq_true'.1 h1 e he
  simpa [hb] using h2
theorem getD_set_neG {l : Array Bool} {j k : Nat} {d : Bool} (h : j ≠ k) : (l.setIfInBounds j true).getD k d = l.getD k d := by
  simp [Array.getD_eq_getD_getElem?, h]
theorem getD_set_trueG {l : Array Bool} {j k : Nat} (h : l.getD k false = true) : (l.setIfInBounds j true).getD k false = true := by
  by_cases hjk : j = k
  · subst hjk
    have : j < l.size := by
      rcases Nat.lt_or_ge j l.size with h' | h'
      · exact h'
      · simp [h'] at h
    simp [this]
  · rw [getD_set_neG hjk]; exact h
theorem not_true_of {l : Array Bool} {i : Nat} (h : l.getD i true = false) : l.getD i false = false := by
  rcases Nat.lt_or_ge i l.size with h' | h'
  · simp [h'] at h ⊢; exact h
  · simp [h'] at h
theorem ClosedG.set {i : Nat} {listed : Array Bool} (inv : ClosedG md ops listed) (hi : i ∈ Region.ready md ops listed) : ClosedG md ops (listed.setIfInBounds i true) := by
  obtain ⟨_, oi, hoi, hall⟩ := mem_ready.1 hi
  intro j oj hj hl e he hb
  by_cases hij : i = j
  · subst hij
    have : oj = oi := Option.some.inj (hj.symm.trans hoi)
    subst this
    exact getD_set_trueG (hall e he hb)
  · rw [getD_set_neG hij] at hl
    exact getD_set_trueG (inv j oj hj hl e he hb)
theorem waitsT_listed {i : Nat} {listed : Array Bool} (inv : ClosedG md ops listed) (hi : listed.getD i true = false) : ∀ (n j : Nat), waitsT md ops i n j = true → listed.getD j false = false
  | 0, _, h => by cases h
  | n + 1, j, h => by
    unfold waitsT at h
    split at h
    · next o ho =>
      obtain ⟨e, he, hb⟩ := Array.any_eq_true'.1 h
      simp only [Bool.and_eq_true, Bool.or_eq_true, beq_iff_eq] at hb
      cases hl : listed.getD j false with
      | false => rfl
      | true =>
        have h1 := inv j o ho hl e he hb.1
        rcases hb.2 with h2 | h2
        · rw [h2, not_true_of hi] at h1; cases h1
        · rw [waitsT_listed inv hi n _ h2] at h1; cases h1
    · cases h
theorem waitsT_ready {i : Nat} {listed : Array Bool} (inv : ClosedG md ops listed) (hi : listed.getD i true = false) {n j : Nat} (hw : waitsT md ops i n j = true) : ¬ j ∈ Region.ready md ops listed := fun hr => by
  obtain ⟨_, oj, hoj, hall⟩ := mem_ready.1 hr
  cases n with
  | zero => cases hw
  | succ n =>
    unfold waitsT at hw
    rw [hoj] at hw
    obtain ⟨e, he, hb⟩ := Array.any_eq_true'.1 hw
    simp only [Bool.and_eq_true, Bool.or_eq_true, beq_iff_eq] at hb
    have h1 := hall e he hb.1
    rcases hb.2 with h2 | h2
    · rw [h2, not_true_of hi] at h1; cases h1
    · rw [waitsT_listed inv hi n _ h2] at h1; cases h1

/-- S: what is used of the world for 'i': it follows wherever 'i' has not come up -/
theorem wpAnyG_first {S : World → Prop} {i : Nat} {oi : Oper} {v : Value} (hi : ops[i]? = some oi) (hsel : ∀ (j : Nat) (o : Oper) cs b, ops[j]? = some o → o.op ≠ .select cs b)
    (hQ : ∀ c a w, Q (.panic c) (a.put oi.dst v) w → Q (.panic c) a w) (hfi : fin ≠ i) (hS : ∀ L w, ClosedG md ops L → L.getD i true = false → InvG P0 P1 fin L w → S w) :
    ∀ (fuel : Nat) (listed : Array Bool) (a : Act) (w : World), ClosedG md ops listed →
      (∀ j oj, ops[j]? = some oj → j ≠ i → listed.getD j true = false → (∀ e ∈ oj.after, Region.binds md e = true → e.on ≠ i) → oi.apart ops oj = true) →
      i ∈ Region.ready md ops listed → YieldsIf P ops S oi v a → InvG P0 P1 fin listed w →
      wpAnyG P md ops Q P0 P1 fin fuel (listed.setIfInBounds i true) (a.put oi.dst v) w → wpAnyG P md ops Q P0 P1 fin (fuel + 1) listed a w := by
  have hset : ∀ L w, InvG P0 P1 fin (L.setIfInBounds i true) w ↔ InvG P0 P1 fin L w := fun L w => by
    unfold InvG; rw [getD_set_neG (fun e => hfi e.symm)]
  intro fuel
  induction fuel with
  | zero =>
    intro listed a w hcl hfree hr hy hI H
    refine ⟨fun h => (by rw [h] at hr; cases hr), fun j hj => ?_⟩
    by_cases hji : j = i
    · subst hji; exact hy.wpOp hi (hS _ _ hcl (mem_ready.1 hr).1 hI) ⟨(hset _ _).2 hI, H⟩
    · have := ready_mono hj hji
      rw [H.1] at this
      cases this
  | succ fuel ih =>
    intro listed a w hcl hfree hr hy hI H
    refine ⟨fun h => (by rw [h] at hr; cases hr), fun j hj => ?_⟩
    by_cases hji : j = i
    · subst hji; exact hy.wpOp hi (hS _ _ hcl (mem_ready.1 hr).1 hI) ⟨(hset _ _).2 hI, H⟩
    · have h1 := H.2 j (ready_mono hj hji)
      obtain ⟨hjun, oj, hoj, hall⟩ := mem_ready.1 hj
      have hnot : ∀ e ∈ oj.after, Region.binds md e = true → e.on ≠ i := fun e he hb heq => by
        have h1 := hall e he hb
        have h0 := (mem_ready.1 hr).1
        rw [heq, not_true_of h0] at h1
        cases h1
      have h2 := wpOp_putIf hoj (hfree j oj hoj hji hjun hnot) (fun cs b => hsel i oi cs b hi) (fun cs b => hsel j oj cs b hoj) hQ hy h1
      have hfree' : ∀ k ok, ops[k]? = some ok → k ≠ i → (listed.setIfInBounds j true).getD k true = false →
          (∀ e ∈ ok.after, Region.binds md e = true → e.on ≠ i) → oi.apart ops ok = true := fun k ok hk hki hun hno => by
        refine hfree k ok hk hki ?_ hno
        by_cases hjk : j = k
        · subst hjk; exact hjun
        · rw [getD_set_neG hjk] at hun; exact hun
      refine wpOp_mono (fun a' w' h3 => ?_) h2
      have h4 := h3.2.1
      rw [Array.setIfInBounds_comm _ _ (Ne.symm hji), hset] at h4
      refine ⟨h4, ih (listed.setIfInBounds j true) a' w' (hcl.set hj) hfree' (ready_mono hr (Ne.symm hji)) h3.1 h4 ?_⟩
      rw [Array.setIfInBounds_comm _ _ hji]
      exact h3.2.2
/-- taken first, under both, if 'fin' waits for it -/
theorem wpAnyG_take {i : Nat} {oi : Oper} {v : Value} {fuel : Nat} {listed : Array Bool} {a : Act} {w : World} (hi : ops[i]? = some oi)
    (hb : (Region.noSelect ops && Region.free md ops listed i && (Region.ready md ops listed).contains i && (waitsT md ops i ops.size fin && (fin != i)) && closedB md ops listed) = true)
    (hQ : ∀ c a w, Q (.panic c) (a.put oi.dst v) w → Q (.panic c) a w) (hy : YieldsIf P ops (fun w => P0 w ∧ P1 w) oi v a) (hS : InvG P0 P1 fin listed w)
    (h : wpAnyG P md ops Q P0 P1 fin fuel (listed.setIfInBounds i true) (a.put oi.dst v) w) : wpAnyG P md ops Q P0 P1 fin (fuel + 1) listed a w := by
  simp only [Bool.and_eq_true, bne_iff_ne] at hb
  exact wpAnyG_first (S := fun w => P0 w ∧ P1 w) hi (Region.noSelect_spec hb.1.1.1.1) hQ hb.1.2.2 (fun L w hc hl hI => ⟨hI.1, hI.2 (waitsT_listed hc hl _ _ hb.1.2.1)⟩) fuel listed a w (closedB_spec hb.2) (Region.free_spec hi hb.1.1.1.2) (by simpa using hb.1.1.2) hy hS h
/-- taken first, under what holds always -/
theorem wpAnyG_take0 {i : Nat} {oi : Oper} {v : Value} {fuel : Nat} {listed : Array Bool} {a : Act} {w : World} (hi : ops[i]? = some oi)
    (hb : (Region.noSelect ops && Region.free md ops listed i && (Region.ready md ops listed).contains i && (fin != i) && closedB md ops listed) = true)
    (hQ : ∀ c a w, Q (.panic c) (a.put oi.dst v) w → Q (.panic c) a w) (hy : YieldsIf P ops P0 oi v a) (hS : InvG P0 P1 fin listed w)
    (h : wpAnyG P md ops Q P0 P1 fin fuel (listed.setIfInBounds i true) (a.put oi.dst v) w) : wpAnyG P md ops Q P0 P1 fin (fuel + 1) listed a w := by
  simp only [Bool.and_eq_true, bne_iff_ne] at hb
  exact wpAnyG_first (S := P0) hi (Region.noSelect_spec hb.1.1.1.1) hQ hb.1.2 (fun L w hc hl hI => hI.1) fuel listed a w (closedB_spec hb.2) (Region.free_spec hi hb.1.1.1.2) (by simpa using hb.1.1.2) hy hS h
def AllReadyG (P : Program) (md : Region.Mode) (ops : Array Oper) (Q : Exit → Act → World → Prop) (P0 P1 : World → Prop) (fin : Nat) (fuel : Nat) (listed : Array Bool) (a : Act) (w : World) (rs : List Nat) : Prop :=
  ∀ i ∈ rs, wpOp P ops Q i (fun a' w' => InvG P0 P1 fin (listed.setIfInBounds i true) w' ∧ wpAnyG P md ops Q P0 P1 fin fuel (listed.setIfInBounds i true) a' w') a w
theorem AllReadyG.nil {fuel : Nat} {listed : Array Bool} {a : Act} {w : World} : AllReadyG P md ops Q P0 P1 fin fuel listed a w [] := fun _ h => by cases h
theorem AllReadyG.cons {fuel : Nat} {listed : Array Bool} {a : Act} {w : World} {i : Nat} {o : Oper} {rs : List Nat} (ho : ops[i]? = some o)
    (h : ∀ K' : Act → World → Prop, Shut (∀ a w, InvG P0 P1 fin (listed.setIfInBounds i true) w → (InvG P0 P1 fin (listed.setIfInBounds i true) w → wpAnyG P md ops Q P0 P1 fin fuel (listed.setIfInBounds i true) a w) → K' a w) → if Region.wanted o (yielded ops a.tmps) = true then Oper.wp P o a w K' Q else K' (a.put o.dst undef) w)
    (hs : AllReadyG P md ops Q P0 P1 fin fuel listed a w rs) : AllReadyG P md ops Q P0 P1 fin fuel listed a w (i :: rs) := fun j hj => by
  rcases List.mem_cons.1 hj with rfl | hj
  · exact wpOp_step ho (fun K' hK => h K' (fun a w hS hW => hK a w ⟨hS, hW hS⟩))
  · exact hs j hj
/-- the same, where the operation has no guard -/
theorem AllReadyG.plain {fuel : Nat} {listed : Array Bool} {a : Act} {w : World} {i : Nat} {o : Oper} {rs : List Nat} (ho : ops[i]? = some o) (hgd : o.guard = none)
    (h : ∀ K' : Act → World → Prop, Shut (∀ a w, InvG P0 P1 fin (listed.setIfInBounds i true) w → (InvG P0 P1 fin (listed.setIfInBounds i true) w → wpAnyG P md ops Q P0 P1 fin fuel (listed.setIfInBounds i true) a w) → K' a w) → Oper.wp P o a w K' Q)
    (hs : AllReadyG P md ops Q P0 P1 fin fuel listed a w rs) : AllReadyG P md ops Q P0 P1 fin fuel listed a w (i :: rs) :=
  AllReadyG.cons ho (fun K' hK => by
    have hw : Region.wanted o (yielded ops a.tmps) = true := by simp [Region.wanted, hgd]
    rw [if_pos hw]
    exact h K' hK) hs
theorem wpAnyG_ready {rs : List Nat} {fuel : Nat} {listed : Array Bool} {a : Act} {w : World} (hr : Region.ready md ops listed = rs) (hne : rs ≠ [])
    (h : AllReadyG P md ops Q P0 P1 fin fuel listed a w rs) : wpAnyG P md ops Q P0 P1 fin (fuel + 1) listed a w := ⟨fun h0 => absurd (hr ▸ h0) hne, hr ▸ h⟩
theorem wpAnyG_done {listed : Array Bool} {a : Act} {w : World} (hr : Region.ready md ops listed = []) (h : Q .normal a w) : ∀ fuel, wpAnyG P md ops Q P0 P1 fin fuel listed a w
  | 0 => ⟨hr, h⟩
  | _ + 1 => ⟨fun _ => h, by rw [hr]; simp⟩
/-- the beginning -/
theorem wp_region_G {id : Nat} {a : Act} {w : World} (fin : Nat) (P0 P1 : World → Prop) (hm : P.follows .mixedOrders = true) (h0 : P0 w.drew) (h1 : P1 w.drew)
    (h : InvG P0 P1 fin (Array.replicate ops.size false) w.drew → wpAnyG P .any ops Q P0 P1 fin ops.size (Array.replicate ops.size false) a w.drew) : (Code.region id ops true).wp P Q a w :=
  wp_region_any hm (wpAny_of_G _ _ _ _ (h ⟨h0, fun _ => h1⟩))
/-- the one operation that may come up, done by hand: as long as 'fin' is not among those that have -/
theorem InvG.mk {listed : Array Bool} {w : World} (h0 : P0 w) (h1 : P1 w) : InvG P0 P1 fin listed w := ⟨h0, fun _ => h1⟩
theorem InvG.past {listed : Array Bool} {w : World} (h0 : P0 w) (h1 : listed.getD fin false = true) : InvG P0 P1 fin listed w := ⟨h0, fun h => by rw [h1] at h; cases h⟩
end

end Go.Proofs.YtkldcjlkeblggaaDoor

/- Rows of the call's own that are read as lists of structs, and grow by one struct at a time. -/
namespace Go.Proofs.YtkldcjlkeblggaaDoor
open Go.RowKit
set_option linter.unusedVariables false

/-- a row of the call's own, element by element; R: how the elements are read outside of the row and of X -/
structure RowR (B : Nat) (e : TypeId) (size : Nat) (X : List (Option Nat)) (R : Frag → List (List Value) → Prop) (w : World) (v : Value) (es : List (List Value)) : Prop where
  own : w.ownsRow B e size v es.length es.flatten
  sizes : ∀ x ∈ es, x.length = size
  rd : R (fragE w (v.ownBlock :: X)) es

theorem RowR.nil {B : Nat} {e : TypeId} {size : Nat} {X : List (Option Nat)} {R : Frag → List (List Value) → Prop} {w : World} (hR : ∀ h, R h []) : RowR B e size X R w (.slice none 0 0) [] :=
  ⟨⟨by simp, .inl ⟨rfl, rfl⟩⟩, fun x h => by simp at h, hR _⟩
theorem RowR.below {B : Nat} {e : TypeId} {size : Nat} {X : List (Option Nat)} {R : Frag → List (List Value) → Prop} {w w' : World} {v : Value} {es : List (List Value)} (hR : ∀ h h', FLe h h' → R h es → R h' es) (h : RowR B e size X R w v es) (hb : Below w.heap.size w w') : RowR B e size X R w' v es :=
  ⟨h.own.kept (grown_of_below hb none) (by
    rcases h.own.2 with ⟨rfl, _⟩ | ⟨g, cap, cur, rfl, _⟩
    · exact .inl rfl
    · exact .inr (by simp [Value.ownBlock])), h.sizes, hR _ _ (belowE hb (fun _ h => .inl h)) h.rd⟩
theorem RowR.to {B : Nat} {e : TypeId} {size : Nat} {X : List (Option Nat)} {R R' : Frag → List (List Value) → Prop} {w : World} {v : Value} {es : List (List Value)} (h : RowR B e size X R w v es) (hR : ∀ h, R h es → R' h es) : RowR B e size X R' w v es :=
  ⟨h.own, h.sizes, hR _ h.rd⟩
theorem RowR.flat {B : Nat} {e : TypeId} {size : Nat} {X : List (Option Nat)} {R : Frag → List (List Value) → Prop} {w : World} {v : Value} {es : List (List Value)} (h : RowR B e size X R w v es) (hX : ∀ k, some k ∈ X → k < B) : FlatC size (fragE w X) v es :=
  FlatC.of_owns h.own rfl h.sizes (by
    rcases h.own.2 with ⟨rfl, _⟩ | ⟨g, cap, cur, rfl, hb, _⟩
    · exact .inl rfl
    · right; intro hm
      have := hX g hm
      omega)
theorem RowR.read {B : Nat} {e : TypeId} {size : Nat} {X : List (Option Nat)} {R : Frag → List (List Value) → Prop} {w : World} {v : Value} {es : List (List Value)} (hR : ∀ h h', FLe h h' → R h es → R h' es) (h : RowR B e size X R w v es) : R (fragE w X) es :=
  hR _ _ (subE w (fun k hk => by simp [hk])) h.rd
theorem RowR.lt {B : Nat} {e : TypeId} {size : Nat} {X : List (Option Nat)} {R : Frag → List (List Value) → Prop} {w : World} {v : Value} {es : List (List Value)} (h : RowR B e size X R w v es) (hX : ∀ k, some k ∈ X → k < w.heap.size) : ∀ k, some k ∈ v.ownBlock :: X → k < w.heap.size := fun k hk => by
  rcases List.mem_cons.1 hk with hk | hk
  · exact (h.own.lt k hk.symm).2
  · exact hX k hk
theorem RowR.ge {B : Nat} {e : TypeId} {size : Nat} {X : List (Option Nat)} {R : Frag → List (List Value) → Prop} {w : World} {v : Value} {es : List (List Value)} (h : RowR B e size X R w v es) : ∀ k, v.ownBlock = some k → B ≤ k := fun k hk => (h.own.lt k hk).1
theorem RowR.one {B : Nat} {e : TypeId} {size : Nat} {X : List (Option Nat)} {R : Frag → List (List Value) → Prop} {w : World} {v : Value} {es : List (List Value)} (h : RowR B e size X R w v es) : v.oneCell' = true := by
  rcases h.own.2 with ⟨rfl, _⟩ | ⟨g, cap, cur, rfl, _⟩ <;> rfl

theorem RowR.push {B : Nat} {e : TypeId} {size : Nat} {X : List (Option Nat)} {R R' : Frag → List (List Value) → Prop} {w w8 : World} {v : Value} {es : List (List Value)} {cs : List Value} {g cap : Nat} (h : RowR B e size X R w v es) (hl : cs.length = size)
    (hown : w8.ownsRow B e size (.slice (some ⟨g, 0, none⟩) (es.length + 1) cap) (es.length + 1) (es.flatten ++ cs)) (hg : (w.alloc (.cells cs.toArray e)).grownBy w8 v.ownBlock) (hat : v.ownBlock = some g ∨ g = w.heap.size + 1)
    (hR : ∀ h', FLe (fragE w (v.ownBlock :: X)) h' → R' h' (es ++ [cs])) : RowR B e size X R' w8 (.slice (some ⟨g, 0, none⟩) (es.length + 1) cap) (es ++ [cs]) ∧ w.grownBy w8 v.ownBlock := by
  have hg2 : w.grownBy w8 v.ownBlock := ⟨hg.os, hg.tape, hg.output, Nat.le_trans (by simp) hg.size, fun k hk hne => (hg.block k (by simp; omega) hne).trans (Below.heap_alloc w _ k hk)⟩
  refine ⟨⟨by simpa using hown, fun x hx => ?_, hR _ (grownE hg2 (.inr (by simp)) (fun k hk => ?_))⟩, hg2⟩
  · rcases List.mem_append.1 hx with hx | hx
    · exact h.sizes x hx
    · simp only [List.mem_singleton] at hx; rw [hx]; exact hl
  · rcases List.mem_cons.1 hk with hk | hk
    · have hk : k = g := by simpa [Value.ownBlock] using hk
      rcases hat with h2 | h2
      · left; rw [hk, h2]; exact List.mem_cons_self ..
      · right; omega
    · exact .inl (List.mem_cons_of_mem _ hk)

/-- append of one struct that was just laid into a block of its own -/
theorem wp_append_one {P : Program} {t e : TypeId} {z : Value} {size bytes : Nat} (T : SliceT P t e z size bytes) {o : Oper} {a : Act} {K : Act → World → Prop} {Q : Exit → Act → World → Prop} (s x : Operand)
    (ho : o.op = .call { callee := .builtin .append, args := #[s, x], argTypes := #[t, t] }) {w : World} {B : Nat} {X : List (Option Nat)} {R : Frag → List (List Value) → Prop} {v : Value} {es : List (List Value)} (R' : Frag → List (List Value) → Prop) (cs : List Value)
    (hs : a.eval s = v) (h : RowR B e size X R w v es) (hx : a.eval x = .slice (some ⟨w.heap.size, 0, none⟩) 1 1) (hl : cs.length = size) (h1 : ∀ u ∈ cs, u.oneCell' = true)
    (hn : (es.length + 1) * bytes ≤ 140737488355328) (hB : B ≤ w.heap.size) (hR : ∀ h', FLe (fragE w (v.ownBlock :: X)) h' → R' h' (es ++ [cs]))
    (hK : ∀ v' w', RowR B e size X R' w' v' (es ++ [cs]) → Below B w w' → w.grownBy w' v.ownBlock → v' ≠ .slice none 0 0 → K (a.put o.dst v') w') : o.wp P a (w.alloc (.cells cs.toArray e)) K Q := by
  obtain ⟨i, hi, hz0, hz1, hz2⟩ := info_parts T.info
  have hb := T.bpos
  have hn' : es.length + 1 ≤ (es.length + 1) * bytes := Nat.le_mul_of_pos_right _ hb
  refine wp_append_lies _ s x t ho B e i z size bytes T.und hi hz0 hz1 hz2 T.cells T.pos v es.length es.flatten hs (h.own.alloc _) ⟨w.heap.size, 0, none⟩ 1 1 cs hx (by simpa using hl) (World.news_of_block (heap_alloc_new w _)) h1 (by decide) (by unfold maxLen; omega) hn (by simp; omega) (w.heap.size + 1) (by simp) ?_
  intro g cap w8 ho8 hg8 hat hlt
  obtain ⟨h8, hg⟩ := h.push hl ho8 hg8 hat hR
  exact hK _ w8 h8 (Below.grown (Below.refl _ _) hg hB (fun k hk => h.ge k hk)) hg (by simp)
theorem wpList_append_one {P : Program} {t e : TypeId} {z : Value} {size bytes : Nat} (T : SliceT P t e z size bytes) {ops : Array Oper} {rest : List Oper} {o : Oper} {a : Act} {Q : Exit → Act → World → Prop} (hgd : o.guard = none) (s x : Operand)
    (ho : o.op = .call { callee := .builtin .append, args := #[s, x], argTypes := #[t, t] }) {w : World} {B : Nat} {X : List (Option Nat)} {R : Frag → List (List Value) → Prop} {v : Value} {es : List (List Value)} (R' : Frag → List (List Value) → Prop) (cs : List Value)
    (hs : a.eval s = v) (h : RowR B e size X R w v es) (hx : a.eval x = .slice (some ⟨w.heap.size, 0, none⟩) 1 1) (hl : cs.length = size) (h1 : ∀ u ∈ cs, u.oneCell' = true)
    (hn : (es.length + 1) * bytes ≤ 140737488355328) (hB : B ≤ w.heap.size) (hR : ∀ h', FLe (fragE w (v.ownBlock :: X)) h' → R' h' (es ++ [cs]))
    (hK : ∀ v' w', RowR B e size X R' w' v' (es ++ [cs]) → Below B w w' → w.grownBy w' v.ownBlock → v' ≠ .slice none 0 0 → wpList P ops Q rest (a.put o.dst v') w') : wpList P ops Q (o :: rest) a (w.alloc (.cells cs.toArray e)) :=
  wpList_plain hgd fun _ hK2 => wp_append_one T s x ho R' cs hs h hx hl h1 hn hB hR (fun v' w' h8 hb hg hne => hK2 _ _ (hK v' w' h8 hb hg hne))
/-- a slice of one struct that is given whole, in the midst of a plain region -/
theorem wpList_buildSlice1 {P : Program} {ops : Array Oper} {rest : List Oper} {op : Oper} {a : Act} {w : World} {Q : Exit → Act → World → Prop} (hgd : op.guard = none) (t e : TypeId) (x : Operand) (ho : op.op = .buildSlice t 1 #[(0, x)]) (c0 : List Value) (v0 : Value) (hx : a.eval x = v0) (ht : P.underlying t = some (.slice e))
    (hz : (P.info? e).map (fun i => (i.size, i.zero.map (fun z => z.cells.size))) = some (c0.length, some c0.length)) (h0 : 0 < c0.length) (hb : c0.length ≤ 1000) (e0 : v0.cells = c0.toArray)
    (h : wpList P ops Q rest (a.put op.dst (.slice (some ⟨w.heap.size, 0, none⟩) 1 1)) (w.alloc (.cells c0.toArray e))) : wpList P ops Q (op :: rest) a w :=
  wpList_plain hgd fun _ hK => wp_buildSlice1 t e x ho c0 v0 hx ht hz h0 hb e0 (hK _ _ h)

end Go.Proofs.YtkldcjlkeblggaaDoor

/- Rows of the call's own: a whole element stored over; append of an optional row at a step of a region that draws. -/
namespace Go.Proofs.YtkldcjlkeblggaaDoor
open Go.RowKit
set_option linter.unusedVariables false

theorem wp_append_opt {P : Program} {t e : TypeId} {z : Value} {size bytes : Nat} (T : SliceT P t e z size bytes) {o : Oper} {a : Act} {K : Act → World → Prop} {Q : Exit → Act → World → Prop} (s x : Operand)
    (ho : o.op = .call { callee := .builtin .append, args := #[s, x], argTypes := #[t, t] }) {W : World} {base n m c : Nat} {ad : Option Addr} {v : Value} {xs news : List Value}
    (hs : a.eval s = v) (hown : W.ownsRow base e size v n xs) (hx : a.eval x = .slice ad m c) (hnil : ad = none → c = 0) (hmc : m ≤ c) (hrow : HRow (frag W) ad news) (hl : news.length = m * size) (h1 : ∀ u ∈ news, u.oneCell' = true)
    (hn : (n + m) * bytes ≤ 140737488355328) (hbase : base ≤ W.heap.size)
    (h : ∀ v' w', w'.ownsRow base e size v' (n + m) (xs ++ news) → W.grownBy w' v.ownBlock → (v'.ownBlock = v.ownBlock ∨ v'.ownBlock = some W.heap.size) → K (a.put o.dst v') w') : o.wp P a W K Q := by
  obtain ⟨i, hi, hz0, hz1, hz2⟩ := info_parts T.info
  have hb := T.bpos
  have hn' : n + m ≤ (n + m) * bytes := Nat.le_mul_of_pos_right _ hb
  cases ad with
  | some p =>
    have hcell : ∀ j u, news[j]? = some u → W.cell? (p.add j) = some u := by
      intro j u hu
      rcases hrow with rfl | ⟨b, off, cur, t', fr, e2, hb2, hc⟩
      · simp at hu
      · cases e2
        have hj := (List.getElem?_eq_some_iff.1 hu).1
        rw [Addr.add_none, cell_of_row W b _ cur t' fr hb2, hc j hj, hu]
    obtain ⟨v', w', hr, h2, h3, h4, h5⟩ := run_append_own_at (P := P) W base t o.type e i z size bytes T.und hi hz0 hz1 hz2 T.cells T.pos v n xs hown p m c news hl hcell h1 (by unfold maxLen; omega) hn hbase
    unfold Oper.wp execOp
    simp only [ho, resolve, invoke, builtin, Sem.run_bind, Sem.run_pure, Result.andThen_ok, List.map_toArray, List.map_cons, List.map_nil, hs, hx, hr]
    exact h v' w' h2 h3 h5
  | none =>
    obtain rfl := hnil rfl
    obtain rfl : m = 0 := by omega
    obtain rfl : news = [] := List.eq_nil_of_length_eq_zero (by simpa using hl)
    have hrun := run_append_owned_none (P := P) (w := W) base t o.type e i size T.und hi v n xs hown
    unfold Oper.wp
    simp [execOp, ho, resolve, invoke, builtin, hs, hx, hrun, Result.andThen]
    exact h v W (by simpa using hown) (World.grownBy.refl W _) (.inl rfl)

/-- the block of an own row, and what a store into it leaves -/
theorem own_blk {w : World} {B : Nat} {e : TypeId} {size g n c : Nat} {xs : List Value} (h : w.ownsRow B e size (.slice (some ⟨g, 0, none⟩) n c) n xs) {o : Nat} {vs : List Value} (ho : o + vs.length ≤ xs.length) :
    ∃ cs, Blk w g cs ∧ o + vs.length ≤ cs.length ∧ (w.setRow g (patch cs o vs).toArray).ownsRow B e size (.slice (some ⟨g, 0, none⟩) n c) n (patch xs o vs) := by
  rcases h.2 with ⟨hn, _⟩ | ⟨g', cap, cur, hv, hb, hg, hnc, hcm, hcs, htake⟩
  · cases hn
  · cases hv
    have hxl := h.1
    have hcl : n * size ≤ cur.toList.length := by rw [Array.length_toList, hcs]; exact Nat.mul_le_mul_right _ hnc
    have hle : o + vs.length ≤ cur.toList.length := by omega
    refine ⟨cur.toList, ⟨e, by simpa using hg⟩, hle, ⟨by rw [patch_len ho]; exact hxl, .inr ⟨g, c, (patch cur.toList o vs).toArray, rfl, hb, setRow_heap w g cur _ e _ hg, hnc, hcm, ?_, ?_⟩⟩⟩
    · simp only [List.size_toArray]; rw [patch_len hle, Array.length_toList, hcs]
    · show List.take (n * size) (patch cur.toList o vs) = patch xs o vs
      rw [← htake]
      unfold patch
      have ht : (List.take o cur.toList).length = o := by rw [List.length_take]; omega
      rw [List.take_append, List.take_append, List.take_take, ht, List.take_of_length_le (show vs.length ≤ n * size - o by omega), Nat.min_eq_right (by omega), List.take_take, Nat.min_eq_left (by omega), List.drop_take, Nat.sub_sub]
/-- a store of a whole element into an own row -/
theorem wp_store_own {P : Program} {op : Oper} {a : Act} {w : World} {K : Act → World → Prop} {Q : Exit → Act → World → Prop} (ty : TypeId) (x y : Operand) (ho : op.op = .store ty x y)
    {B : Nat} {e : TypeId} {size g n c o : Nat} {xs vs : List Value} {v : Value} (hx : a.eval x = .pointer (some ⟨g, o, none⟩)) (hy : a.eval y = v) (hv : v.cells = vs.toArray) (h : w.ownsRow B e size (.slice (some ⟨g, 0, none⟩) n c) n xs)
    (hi : (P.info? ty).map (·.size) = some vs.length) (hle : o + vs.length ≤ xs.length) (h1 : ∀ u ∈ vs, u.oneCell' = true)
    (hK : ∀ w2, w2.ownsRow B e size (.slice (some ⟨g, 0, none⟩) n c) n (patch xs o vs) → w.grownBy w2 (some g) → w2.heap.size = w.heap.size → K (a.put op.dst undef) w2) : op.wp P a w K Q := by
  obtain ⟨cs, hb, hl, h2⟩ := own_blk h hle
  exact wp_store_blk ty x y ho g o v vs cs hx hy hv hb hi hl h1 (hK _ h2 (setRow_grown _) (by simp))
/-- a store into a block that is known whole, at a step -/
theorem wp_store_lay {P : Program} {op : Oper} {a : Act} {w : World} {K : Act → World → Prop} {Q : Exit → Act → World → Prop} (ty : TypeId) (x y : Operand) (ho : op.op = .store ty x y)
    (g o : Nat) (v : Value) (vs cs : List Value) (hx : a.eval x = .pointer (some ⟨g, o, none⟩)) (hy : a.eval y = v) (hv : v.cells = vs.toArray) (hb : Blk w g cs)
    (hi : (P.info? ty).map (·.size) = some vs.length) (hle : o + vs.length ≤ cs.length) (h1 : ∀ u ∈ vs, u.oneCell' = true)
    (hK : ∀ w2, Blk w2 g (patch cs o vs) → w.grownBy w2 (some g) → w2.heap.size = w.heap.size → K (a.put op.dst undef) w2) : op.wp P a w K Q :=
  wp_store_blk ty x y ho g o v vs cs hx hy hv hb hi hle h1 (hK _ (hb.set _) (setRow_grown _) (by simp))
theorem one_cells {v : Value} (h : v.oneCell' = true) : v.cells = [v].toArray := by cases v <;> first | rfl | cases h

end Go.Proofs.YtkldcjlkeblggaaDoor
