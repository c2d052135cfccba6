/- Regions that draw: what holds always, and what holds as long as one operation. -/
import Derived.Test.YtebekgdjknenlaaGreatDoorGpAM
set_option linter.unusedVariables false
set_option linter.unusedSimpArgs false
namespace Go.Proofs.YtebekgdjknenlaaGreatDoor
open Go.RowKit
section
variable {P : Program} {ops : Array Oper} {Q : Exit → Act → World → Prop} {md : Region.Mode} {P0 P1 : World → Prop} {fin : Nat}
def InvG (P0 P1 : World → Prop) (fin : Nat) (listed : Array Bool) (w : World) : Prop := P0 w ∧ (listed.getD fin false = false → P1 w)
def wpAnyG (P : Program) (md : Region.Mode) (ops : Array Oper) (Q : Exit → Act → World → Prop) (P0 P1 : World → Prop) (fin : Nat) : Nat → Array Bool → Act → World → Prop
 | 0, listed, a, w => Region.ready md ops listed = [] ∧ Q .normal a w
 | fuel + 1, listed, a, w =>
  (Region.ready md ops listed = [] → Q .normal a w) ∧
  ∀ i ∈ Region.ready md ops listed, wpOp P ops Q i (fun a' w' => InvG P0 P1 fin (listed.setIfInBounds i true) w' ∧ wpAnyG P md ops Q P0 P1 fin fuel (listed.setIfInBounds i true) a' w') a w
theorem wpAny_of_G : ∀ (fuel : Nat) (listed : Array Bool) (a : Act) (w : World), wpAnyG P md ops Q P0 P1 fin fuel listed a w → wpAny P md ops Q fuel listed a w
 | 0, _, _, _, h => h
 | fuel + 1, _, _, _, h => ⟨h.1, fun i hi => wpOp_mono (fun a' w' h' => wpAny_of_G fuel _ a' w' h'.2) (h.2 i hi)⟩
def waitsT (md : Region.Mode) (ops : Array Oper) (i : Nat) : Nat → Nat → Bool
 | 0, _ => false
 | n + 1, j => match ops[j]? with
  | some o => o.after.any fun e => Region.binds md e && (e.on == i || waitsT md ops i n e.on)
  | none => false
def ClosedG (md : Region.Mode) (ops : Array Oper) (listed : Array Bool) : Prop := ∀ j oj, ops[j]? = some oj → listed.getD j false = true → ∀ e ∈ oj.after, Region.binds md e = true → listed.getD e.on false = true
def closedB (md : Region.Mode) (ops : Array Oper) (listed : Array Bool) : Bool := (List.range ops.size).all fun j => match ops[j]? with
 | some oj => !(listed.getD j false) || oj.after.all fun e => !(Region.binds md e) || listed.getD e.on false
 | none => true
theorem closedB_spec {listed : Array Bool} (h : closedB md ops listed = true) : ClosedG md ops listed := by
 intro j oj hj hl e he hb
 have h1 := List.all_eq_true.1 h j (List.mem_range.2 (Array.getElem?_eq_some_iff.1 hj).1)
 simp only [hj, hl, Bool.not_true, Bool.false_or] at h1
 have h2 := Array.all_eq_true'.1 h1 e he
 simpa [hb] using h2
theorem getD_set_neG {l : Array Bool} {j k : Nat} {d : Bool} (h : j ≠ k) : (l.setIfInBounds j true).getD k d = l.getD k d := by
 simp [Array.getD_eq_getD_getElem?, h]
theorem getD_set_trueG {l : Array Bool} {j k : Nat} (h : l.getD k false = true) : (l.setIfInBounds j true).getD k false = true := by
 by_cases hjk : j = k
 ·subst hjk
  have : j < l.size := by
   rcases Nat.lt_or_ge j l.size with h' | h'
   ·exact h'
   ·simp [h'] at h
  simp [this]
 ·rw [getD_set_neG hjk]; exact h
theorem not_true_of {l : Array Bool} {i : Nat} (h : l.getD i true = false) : l.getD i false = false := by
 rcases Nat.lt_or_ge i l.size with h' | h'
 ·simp [h'] at h ⊢; exact h
 ·simp [h'] at h
theorem ClosedG.set {i : Nat} {listed : Array Bool} (inv : ClosedG md ops listed) (hi : i ∈ Region.ready md ops listed) : ClosedG md ops (listed.setIfInBounds i true) := by
 obtain ⟨_, oi, hoi, hall⟩ := mem_ready.1 hi
 intro j oj hj hl e he hb
 by_cases hij : i = j
 ·subst hij
  have : oj = oi := Option.some.inj (hj.symm.trans hoi)
  subst this
  exact getD_set_trueG (hall e he hb)
 ·rw [getD_set_neG hij] at hl
  exact getD_set_trueG (inv j oj hj hl e he hb)
theorem waitsT_listed {i : Nat} {listed : Array Bool} (inv : ClosedG md ops listed) (hi : listed.getD i true = false) : ∀ (n j : Nat), waitsT md ops i n j = true → listed.getD j false = false
 | 0, _, h => by cases h
 | n + 1, j, h => by
  unfold waitsT at h
  split at h
  ·next o ho =>
   obtain ⟨e, he, hb⟩ := Array.any_eq_true'.1 h
   simp only [Bool.and_eq_true, Bool.or_eq_true, beq_iff_eq] at hb
   cases hl : listed.getD j false with
   | false => rfl
   | true =>
    have h1 := inv j o ho hl e he hb.1
    rcases hb.2 with h2 | h2
    ·rw [h2, not_true_of hi] at h1; cases h1
    ·rw [waitsT_listed inv hi n _ h2] at h1; cases h1
  ·cases h
theorem wpAnyG_first {S : World → Prop} {i : Nat} {oi : Oper} {v : Value} (hi : ops[i]? = some oi) (hsel : ∀ (j : Nat) (o : Oper) cs b, ops[j]? = some o → o.op ≠ .select cs b)
  (hQ : ∀ c a w, Q (.panic c) (a.put oi.dst v) w → Q (.panic c) a w) (hfi : fin ≠ i) (hS : ∀ L w, ClosedG md ops L → L.getD i true = false → InvG P0 P1 fin L w → S w) :
  ∀ (fuel : Nat) (listed : Array Bool) (a : Act) (w : World), ClosedG md ops listed →
   (∀ j oj, ops[j]? = some oj → j ≠ i → listed.getD j true = false → (∀ e ∈ oj.after, Region.binds md e = true → e.on ≠ i) → oi.apart ops oj = true) →
   i ∈ Region.ready md ops listed → YieldsIf P ops S oi v a → InvG P0 P1 fin listed w →
   wpAnyG P md ops Q P0 P1 fin fuel (listed.setIfInBounds i true) (a.put oi.dst v) w → wpAnyG P md ops Q P0 P1 fin (fuel + 1) listed a w := by
 have hset : ∀ L w, InvG P0 P1 fin (L.setIfInBounds i true) w ↔ InvG P0 P1 fin L w := fun L w => by
  unfold InvG; rw [getD_set_neG (fun e => hfi e.symm)]
 intro fuel
 induction fuel with
 | zero =>
  intro listed a w hcl hfree hr hy hI H
  refine ⟨fun h => (by rw [h] at hr; cases hr), fun j hj => ?_⟩
  by_cases hji : j = i
  ·subst hji; exact hy.wpOp hi (hS _ _ hcl (mem_ready.1 hr).1 hI) ⟨(hset _ _).2 hI, H⟩
  ·have := ready_mono hj hji
   rw [H.1] at this
   cases this
 | succ fuel ih =>
  intro listed a w hcl hfree hr hy hI H
  refine ⟨fun h => (by rw [h] at hr; cases hr), fun j hj => ?_⟩
  by_cases hji : j = i
  ·subst hji; exact hy.wpOp hi (hS _ _ hcl (mem_ready.1 hr).1 hI) ⟨(hset _ _).2 hI, H⟩
  ·have h1 := H.2 j (ready_mono hj hji)
   obtain ⟨hjun, oj, hoj, hall⟩ := mem_ready.1 hj
   have hnot : ∀ e ∈ oj.after, Region.binds md e = true → e.on ≠ i := fun e he hb heq => by
    have h1 := hall e he hb
    have h0 := (mem_ready.1 hr).1
    rw [heq, not_true_of h0] at h1
    cases h1
   have h2 := wpOp_putIf hoj (hfree j oj hoj hji hjun hnot) (fun cs b => hsel i oi cs b hi) (fun cs b => hsel j oj cs b hoj) hQ hy h1
   have hfree' : ∀ k ok, ops[k]? = some ok → k ≠ i → (listed.setIfInBounds j true).getD k true = false →
     (∀ e ∈ ok.after, Region.binds md e = true → e.on ≠ i) → oi.apart ops ok = true := fun k ok hk hki hun hno => by
    refine hfree k ok hk hki ?_ hno
    by_cases hjk : j = k
    ·subst hjk; exact hjun
    ·rw [getD_set_neG hjk] at hun; exact hun
   refine wpOp_mono (fun a' w' h3 => ?_) h2
   have h4 := h3.2.1
   rw [Array.setIfInBounds_comm _ _ (Ne.symm hji), hset] at h4
   refine ⟨h4, ih (listed.setIfInBounds j true) a' w' (hcl.set hj) hfree' (ready_mono hr (Ne.symm hji)) h3.1 h4 ?_⟩
   rw [Array.setIfInBounds_comm _ _ hji]
   exact h3.2.2
theorem wpAnyG_take {i : Nat} {oi : Oper} {v : Value} {fuel : Nat} {listed : Array Bool} {a : Act} {w : World} (hi : ops[i]? = some oi)
  (hb : (Region.noSelect ops && Region.free md ops listed i && (Region.ready md ops listed).contains i && (waitsT md ops i ops.size fin && (fin != i)) && closedB md ops listed) = true)
  (hQ : ∀ c a w, Q (.panic c) (a.put oi.dst v) w → Q (.panic c) a w) (hy : YieldsIf P ops (fun w => P0 w ∧ P1 w) oi v a) (hS : InvG P0 P1 fin listed w)
  (h : wpAnyG P md ops Q P0 P1 fin fuel (listed.setIfInBounds i true) (a.put oi.dst v) w) : wpAnyG P md ops Q P0 P1 fin (fuel + 1) listed a w := by
 simp only [Bool.and_eq_true, bne_iff_ne] at hb
 exact wpAnyG_first (S := fun w => P0 w ∧ P1 w) hi (Region.noSelect_spec hb.1.1.1.1) hQ hb.1.2.2 (fun L w hc hl hI => ⟨hI.1, hI.2 (waitsT_listed hc hl _ _ hb.1.2.1)⟩) fuel listed a w (closedB_spec hb.2) (Region.free_spec hi hb.1.1.1.2) (by simpa using hb.1.1.2) hy hS h
theorem wpAnyG_take0 {i : Nat} {oi : Oper} {v : Value} {fuel : Nat} {listed : Array Bool} {a : Act} {w : World} (hi : ops[i]? = some oi)
  (hb : (Region.noSelect ops && Region.free md ops listed i && (Region.ready md ops listed).contains i && (fin != i) && closedB md ops listed) = true)
  (hQ : ∀ c a w, Q (.panic c) (a.put oi.dst v) w → Q (.panic c) a w) (hy : YieldsIf P ops P0 oi v a) (hS : InvG P0 P1 fin listed w)
  (h : wpAnyG P md ops Q P0 P1 fin fuel (listed.setIfInBounds i true) (a.put oi.dst v) w) : wpAnyG P md ops Q P0 P1 fin (fuel + 1) listed a w := by
 simp only [Bool.and_eq_true, bne_iff_ne] at hb
 exact wpAnyG_first (S := P0) hi (Region.noSelect_spec hb.1.1.1.1) hQ hb.1.2 (fun L w hc hl hI => hI.1) fuel listed a w (closedB_spec hb.2) (Region.free_spec hi hb.1.1.1.2) (by simpa using hb.1.1.2) hy hS h
def AllReadyG (P : Program) (md : Region.Mode) (ops : Array Oper) (Q : Exit → Act → World → Prop) (P0 P1 : World → Prop) (fin : Nat) (fuel : Nat) (listed : Array Bool) (a : Act) (w : World) (rs : List Nat) : Prop :=
 ∀ i ∈ rs, wpOp P ops Q i (fun a' w' => InvG P0 P1 fin (listed.setIfInBounds i true) w' ∧ wpAnyG P md ops Q P0 P1 fin fuel (listed.setIfInBounds i true) a' w') a w
theorem AllReadyG.nil {fuel : Nat} {listed : Array Bool} {a : Act} {w : World} : AllReadyG P md ops Q P0 P1 fin fuel listed a w [] := fun _ h => by cases h
theorem AllReadyG.cons {fuel : Nat} {listed : Array Bool} {a : Act} {w : World} {i : Nat} {o : Oper} {rs : List Nat} (ho : ops[i]? = some o)
  (h : ∀ K' : Act → World → Prop, Shut (∀ a w, InvG P0 P1 fin (listed.setIfInBounds i true) w → (InvG P0 P1 fin (listed.setIfInBounds i true) w → wpAnyG P md ops Q P0 P1 fin fuel (listed.setIfInBounds i true) a w) → K' a w) → if Region.wanted o (yielded ops a.tmps) = true then Oper.wp P o a w K' Q else K' (a.put o.dst undef) w)
  (hs : AllReadyG P md ops Q P0 P1 fin fuel listed a w rs) : AllReadyG P md ops Q P0 P1 fin fuel listed a w (i :: rs) := fun j hj => by
 rcases List.mem_cons.1 hj with rfl | hj
 ·exact wpOp_step ho (fun K' hK => h K' (fun a w hS hW => hK a w ⟨hS, hW hS⟩))
 ·exact hs j hj
theorem AllReadyG.plain {fuel : Nat} {listed : Array Bool} {a : Act} {w : World} {i : Nat} {o : Oper} {rs : List Nat} (ho : ops[i]? = some o) (hgd : o.guard = none)
  (h : ∀ K' : Act → World → Prop, Shut (∀ a w, InvG P0 P1 fin (listed.setIfInBounds i true) w → (InvG P0 P1 fin (listed.setIfInBounds i true) w → wpAnyG P md ops Q P0 P1 fin fuel (listed.setIfInBounds i true) a w) → K' a w) → Oper.wp P o a w K' Q)
  (hs : AllReadyG P md ops Q P0 P1 fin fuel listed a w rs) : AllReadyG P md ops Q P0 P1 fin fuel listed a w (i :: rs) :=
 AllReadyG.cons ho (fun K' hK => by
  have hw : Region.wanted o (yielded ops a.tmps) = true := by simp [Region.wanted, hgd]
  rw [if_pos hw]
  exact h K' hK) hs
theorem wpAnyG_ready {rs : List Nat} {fuel : Nat} {listed : Array Bool} {a : Act} {w : World} (hr : Region.ready md ops listed = rs) (hne : rs ≠ [])
  (h : AllReadyG P md ops Q P0 P1 fin fuel listed a w rs) : wpAnyG P md ops Q P0 P1 fin (fuel + 1) listed a w := ⟨fun h0 => absurd (hr ▸ h0) hne, hr ▸ h⟩
theorem rdG {fuel : Nat} {listed : Array Bool} {a : Act} {w : World} {i : Nat} {o : Oper} (hr : Region.ready md ops listed = [i]) (ho : ops[i]? = some o) (hgd : o.guard = none)
  (h : ∀ K' : Act → World → Prop, Shut (∀ a w, InvG P0 P1 fin (listed.setIfInBounds i true) w → (InvG P0 P1 fin (listed.setIfInBounds i true) w → wpAnyG P md ops Q P0 P1 fin fuel (listed.setIfInBounds i true) a w) → K' a w) → Oper.wp P o a w K' Q) : wpAnyG P md ops Q P0 P1 fin (fuel + 1) listed a w :=
 wpAnyG_ready hr (by simp) (AllReadyG.plain ho hgd h AllReadyG.nil)
theorem wpAnyG_done {listed : Array Bool} {a : Act} {w : World} (hr : Region.ready md ops listed = []) (h : Q .normal a w) : ∀ fuel, wpAnyG P md ops Q P0 P1 fin fuel listed a w
 | 0 => ⟨hr, h⟩
 | _ + 1 => ⟨fun _ => h, by rw [hr]; simp⟩
theorem wp_region_G {id : Nat} {a : Act} {w : World} (fin : Nat) (P0 P1 : World → Prop) (hm : P.follows .mixedOrders = true) (h0 : P0 w.drew) (h1 : P1 w.drew)
  (h : InvG P0 P1 fin (Array.replicate ops.size false) w.drew → wpAnyG P .any ops Q P0 P1 fin ops.size (Array.replicate ops.size false) a w.drew) : (Code.region id ops true).wp P Q a w :=
 wp_region_any hm (wpAny_of_G _ _ _ _ (h ⟨h0, fun _ => h1⟩))
theorem InvG.mk {listed : Array Bool} {w : World} (h0 : P0 w) (h1 : P1 w) : InvG P0 P1 fin listed w := ⟨h0, fun _ => h1⟩
theorem mkG {P1 : World → Prop} {fin : Nat} {listed : Array Bool} {w : World} (h1 : P1 w) : InvG (fun _ => True) P1 fin listed w := ⟨trivial, fun _ => h1⟩
theorem InvG.past {listed : Array Bool} {w : World} (h0 : P0 w) (h1 : listed.getD fin false = true) : InvG P0 P1 fin listed w := ⟨h0, fun h => by rw [h1] at h; cases h⟩
end
end Go.Proofs.YtebekgdjknenlaaGreatDoor
namespace Go.Proofs.YtebekgdjknenlaaGreatDoor
open Go.RowKit
structure Own (w0 : World) (l : List (Nat × List Value)) (w : World) : Prop where
 below : Below w0.heap.size w0 w
 nodup : (l.map (·.1)).Nodup
 blk : ∀ x ∈ l, w0.heap.size ≤ x.1 ∧ Blk w x.1 x.2
theorem Own.nil (w : World) : Own w [] w := ⟨Below.refl _ _, List.nodup_nil, fun _ h => by cases h⟩
theorem Own.at {w0 w : World} {l : List (Nat × List Value)} (h : Own w0 l w) (i : Nat) {g : Nat} {cs : List Value} (hi : l[i]? = some (g, cs)) : Blk w g cs := (h.blk _ (List.mem_of_getElem? hi)).2
theorem Own.ge {w0 w : World} {l : List (Nat × List Value)} (h : Own w0 l w) (i : Nat) {g : Nat} {cs : List Value} (hi : l[i]? = some (g, cs)) : w0.heap.size ≤ g := (h.blk _ (List.mem_of_getElem? hi)).1
theorem Own.call {w0 w w' : World} {l : List (Nat × List Value)} (h : Own w0 l w) (hb : Below w.heap.size w w') : Own w0 l w' :=
 ⟨h.below.trans (hb.mono h.below.size), h.nodup, fun x hx => ⟨(h.blk x hx).1, (h.blk x hx).2.below hb (h.blk x hx).2.lt⟩⟩
theorem Own.drew {w0 w : World} {l : List (Nat × List Value)} (h : Own w0 l w) : Own w0 l w.drew := ⟨h.below.drew, h.nodup, h.blk⟩
theorem Own.drewN {w0 w : World} {l : List (Nat × List Value)} (h : Own w0 l w) (n : Nat) : Own w0 l (w.drewN n) := ⟨Below.drewN h.below n, h.nodup, h.blk⟩
theorem Own.lay {w0 w : World} {l : List (Nat × List Value)} (h : Own w0 l w) (cs : List Value) (t : TypeId) : Own w0 ((w.heap.size, cs) :: l) (w.alloc (.cells cs.toArray t)) := by
 refine ⟨h.below.alloc h.below.size _, ?_, ?_⟩
 ·rw [List.map_cons, List.nodup_cons]
  refine ⟨fun hm => ?_, h.nodup⟩
  obtain ⟨x, hx, e⟩ := List.mem_map.1 hm
  have := (h.blk x hx).2.lt
  omega
 ·intro x hx
  rcases List.mem_cons.1 hx with rfl | hx
  ·exact ⟨h.below.size, Blk.new w t cs⟩
  ·exact ⟨(h.blk x hx).1, (h.blk x hx).2.alloc _⟩
theorem map_set_fst {l : List (Nat × List Value)} {i : Nat} {g : Nat} {cs ds : List Value} (hi : l[i]? = some (g, cs)) : (l.set i (g, ds)).map (·.1) = l.map (·.1) := by
 rw [List.map_set]
 apply List.ext_getElem?
 intro j
 rw [List.getElem?_set]
 by_cases h : i = j
 ·subst h
  rw [if_pos rfl, List.getElem?_map, hi]
  have := (List.getElem?_eq_some_iff.1 hi).1
  simp [this]
 ·rw [if_neg h]
theorem Own.set {w0 w w' : World} {l : List (Nat × List Value)} (h : Own w0 l w) (i : Nat) {g : Nat} {cs ds : List Value} (hi : l[i]? = some (g, cs)) (hB : Blk w' g ds) (hg : w.grownBy w' (some g)) : Own w0 (l.set i (g, ds)) w' := by
 refine ⟨Below.grown h.below hg h.below.size (fun _ e => by cases e; exact h.ge i hi), by rw [map_set_fst hi]; exact h.nodup, fun x hx => ?_⟩
 obtain ⟨j, hj, e⟩ := List.mem_iff_getElem.1 hx
 have hil := (List.getElem?_eq_some_iff.1 hi).1
 rw [List.length_set] at hj
 rw [List.getElem_set] at e
 by_cases hij : i = j
 ·rw [if_pos hij] at e
  subst e
  exact ⟨h.ge i hi, hB⟩
 ·rw [if_neg hij] at e
  have hx' : x ∈ l := by rw [← e]; exact List.getElem_mem hj
  refine ⟨(h.blk x hx').1, (h.blk x hx').2.grown hg (fun e2 => hij ?_)⟩
  have hxg : x.1 = g := Option.some.inj e2
  have h1 : (l.map (·.1))[i]'(by simpa using hil) = (l.map (·.1))[j]'(by simpa using hj) := by
   rw [List.getElem_map, List.getElem_map, e, hxg]
   have := (List.getElem?_eq_some_iff.1 hi).2
   rw [this]
  exact (List.getElem_inj h.nodup).1 h1
theorem Own.sub {w0 w : World} {l l' : List (Nat × List Value)} (h : Own w0 l w) (hs : l'.Sublist l) : Own w0 l' w := ⟨h.below, h.nodup.sublist (hs.map _), fun x hx => h.blk x (hs.subset hx)⟩
theorem Own.tl {w0 w : World} {x : Nat × List Value} {l : List (Nat × List Value)} (h : Own w0 (x :: l) w) : Own w0 l w := h.sub (List.sublist_cons_self _ _)
section
variable {P : Program} {ops : Array Oper} {rest : List Oper} {op : Oper} {a : Act} {w w0 : World} {Q : Exit → Act → World → Prop} {l : List (Nat × List Value)}
theorem wpList_alloc_own (hgd : Region.wanted op (yielded ops a.tmps) = true) (ty : TypeId) (ho : op.op = .alloc ty) (zs : List Value) (hz : (P.info? ty).map (·.zero) = some (some (.agg zs.toArray))) (HO : Own w0 l w)
  (h : ∀ w2 g, Own w0 ((g, zs) :: l) w2 → wpList P ops Q rest (a.put op.dst (.pointer (some ⟨g, 0, none⟩))) w2) : wpList P ops Q (op :: rest) a w := by
 refine BigFrame.wpList_want hgd fun K hK => ?_
 unfold Oper.wp execOp
 cases hq : P.info? ty with
 | none => simp [hq] at hz
 | some i =>
  have hs : i.zero = some (.agg zs.toArray) := by simpa [hq] using hz
  simp only [ho, Instr.alloc, zeroValue, typeInfo, hq, hs, newVar, newRow, Value.cells, Sem.run_bind, Sem.run_pure, run_newObj, Result.andThen_ok]
  simp [hq, hs, newVar, newRow, Value.cells]
  exact hK _ _ (h _ _ (HO.lay zs ty))
theorem wpList_box_own (hgd : Region.wanted op (yielded ops a.tmps) = true) (ty : TypeId) (x : Operand) (ho : op.op = .box ty x) (cs : List Value) (hx : a.eval x = .agg cs.toArray) (HO : Own w0 l w)
  (h : ∀ w2 g, Own w0 ((g, cs) :: l) w2 → wpList P ops Q rest (a.put op.dst (.pointer (some ⟨g, 0, none⟩))) w2) : wpList P ops Q (op :: rest) a w := by
 refine BigFrame.wpList_want hgd fun K hK => ?_
 unfold Oper.wp execOp
 simp only [ho, hx, Instr.box, newVar, newRow, Value.cells, Sem.run_bind, Sem.run_pure, run_newObj, Result.andThen_ok]
 exact hK _ _ (h _ _ (HO.lay cs ty))
theorem wpList_store_own (i : Nat) (hgd : Region.wanted op (yielded ops a.tmps) = true) (ty : TypeId) (x y : Operand) (ho : op.op = .store ty x y) (g o : Nat) (vs : List Value) (hx : a.eval x = .pointer (some ⟨g, o, none⟩)) (hy : a.eval y = .agg vs.toArray)
  (HO : Own w0 l w) {cs ds : List Value} (hi : l[i]? = some (g, cs)) (hs : (P.info? ty).map (·.size) = some vs.length) (hle : o + vs.length ≤ cs.length) (h1 : ∀ u ∈ vs, u.oneCell' = true) (hd : patch cs o vs = ds)
  (h : ∀ w2, Own w0 (l.set i (g, ds)) w2 → wpList P ops Q rest (a.put op.dst undef) w2) : wpList P ops Q (op :: rest) a w :=
 wpList_store_blk hgd ty x y ho g o vs hx hy cs (HO.at i hi) hs hle h1 (fun w2 h2 h3 _ => h w2 (HO.set i hi (hd ▸ h2) h3))
theorem wpList_store_own1 (i : Nat) (hgd : Region.wanted op (yielded ops a.tmps) = true) (ty : TypeId) (x y : Operand) (ho : op.op = .store ty x y) (g o : Nat) (v : Value) (hx : a.eval x = .pointer (some ⟨g, o, none⟩)) (hy : a.eval y = v)
  (HO : Own w0 l w) {cs ds : List Value} (hi : l[i]? = some (g, cs)) (hs : (P.info? ty).map (·.size) = some 1) (hle : o + 1 ≤ cs.length) (h1 : v.oneCell' = true) (hd : patch cs o [v] = ds)
  (h : ∀ w2, Own w0 (l.set i (g, ds)) w2 → wpList P ops Q rest (a.put op.dst undef) w2) : wpList P ops Q (op :: rest) a w :=
 wpList_store_blk1 hgd ty x y ho g o v hx hy cs (HO.at i hi) hs hle h1 (fun w2 h2 h3 _ => h w2 (HO.set i hi (hd ▸ h2) h3))
theorem wpList_load_own (i : Nat) (hgd : Region.wanted op (yielded ops a.tmps) = true) (ty : TypeId) (x : Operand) (ho : op.op = .load ty x) (g : Nat) (hx : a.eval x = .pointer (some ⟨g, 0, none⟩)) (HO : Own w0 l w) {cs : List Value} (hi : l[i]? = some (g, cs)) (d : TypeDesc)
  (hu : P.underlying ty = some d) (hd : d.isRow = true) (hs : (P.info? ty).map (·.size) = some cs.length)
  (h : wpList P ops Q rest (a.put op.dst (.agg cs.toArray)) w) : wpList P ops Q (op :: rest) a w :=
 wpList_load_seg hgd ty x ho g 0 hx cs d (HO.at i hi).whole hu hd hs h
theorem wp_store_own' {K : Act → World → Prop} (i : Nat) (ty : TypeId) (x y : Operand) (ho : op.op = .store ty x y) (g o : Nat) (v : Value) (vs : List Value) (hx : a.eval x = .pointer (some ⟨g, o, none⟩)) (hy : a.eval y = v) (hv : v.cells = vs.toArray)
  (HO : Own w0 l w) {cs ds : List Value} (hi : l[i]? = some (g, cs)) (hs : (P.info? ty).map (·.size) = some vs.length) (hle : o + vs.length ≤ cs.length) (h1 : ∀ u ∈ vs, u.oneCell' = true) (hd : patch cs o vs = ds)
  (h : ∀ w2, Own w0 (l.set i (g, ds)) w2 → K (a.put op.dst undef) w2) : op.wp P a w K Q :=
 wp_store_blk ty x y ho g o v vs cs hx hy hv (HO.at i hi) hs hle h1 (h _ (HO.set i hi (hd ▸ (HO.at i hi).set _) (setRow_grown _)))
end
section
variable {P : Program} {fn : Func} {tmps : Array Value} {w : World} {p q u v : Tmp} {T1 T2 : TypeId} {g1 g2 : Nat} {c1 c2 : List Value} {x y : Value} {d1 d2 : TypeDesc}
theorem results_ctc (h : fn.results = #[.cell p T1, .tmp u, .cell q T2]) (h1 : tmps.getD p undef = .pointer (some ⟨g1, 0, none⟩)) (hx : tmps.getD u undef = x) (h2 : tmps.getD q undef = .pointer (some ⟨g2, 0, none⟩))
  (r1 : (loadVar T1 ⟨g1, 0, none⟩).run P w = .ok (.agg c1.toArray) w) (r2 : (loadVar T2 ⟨g2, 0, none⟩).run P w = .ok (.agg c2.toArray) w) : (results fn tmps).run P w = .ok (.tuple #[.agg c1.toArray, x, .agg c2.toArray]) w := by
 have h1' : tmps[p]?.getD undef = .pointer (some ⟨g1, 0, none⟩) := by simpa using h1
 have h2' : tmps[q]?.getD undef = .pointer (some ⟨g2, 0, none⟩) := by simpa using h2
 have hx' : tmps[u]?.getD undef = x := by simpa using hx
 simp [results, h, h1', h2', hx', asAddr, r1, r2, Sem.run_bind, Result.andThen]
end
end Go.Proofs.YtebekgdjknenlaaGreatDoor
namespace Go.Proofs.YtebekgdjknenlaaGreatDoor
open Go.RowKit
def fragB (w : World) (B : Nat) : Frag := fun k => if k < B then w.heap[k]? else none
def fragU (w : World) (B : Nat) (E : List (Option Nat)) : Frag := fun k => if B ≤ k then fragE w E k else none
theorem fragU_grown {w w' : World} {B : Nat} {X : Option Nat} {E E' : List (Option Nat)} (hg : w.grownBy w' X) (hX : ∀ k, X = some k → k < B ∨ X ∈ E) (hE : ∀ k, some k ∈ E' → some k ∈ E ∨ w.heap.size ≤ k) : FLe (fragU w B E) (fragU w' B E') := fun k o e => by
 unfold fragU fragE at e ⊢
 split at e
 ·rename_i hB
  rw [if_pos hB]
  split at e
  ·cases e
  ·rename_i h
   have hk := heap_lt e
   rw [if_neg (fun e2 => by rcases hE k e2 with h2 | h2; exact h h2; omega)]
   refine (hg.block k hk ?_).trans e
   intro e2
   rcases hX k e2.symm with h2 | h2
   ·omega
   ·exact h (e2 ▸ h2)
 ·cases e
theorem fragU_sub (w : World) (B : Nat) {E E' : List (Option Nat)} (hE : ∀ k, some k ∈ E' → some k ∈ E) : FLe (fragU w B E) (fragU w B E') :=
 fragU_grown (World.grownBy.refl w .none) (fun k h => by cases h) (fun k h => .inl (hE k h))
theorem fragU_down (w : World) {B B' : Nat} {E E' : List (Option Nat)} (hB : B' ≤ B) (hE : ∀ k, some k ∈ E' → k < B) : FLe (fragU w B E) (fragU w B' E') := fun k o e => by
 unfold fragU at e ⊢
 split at e
 ·rename_i hk
  rw [if_pos (by omega)]
  unfold fragE at e ⊢
  split at e
  ·cases e
  ·rw [if_neg (fun h => by have := hE k h; omega)]; exact e
 ·cases e
structure ORow where
 ty : TypeId
 size : Nat
 v : Value
 n : Nat
 xs : List Value
def obs (L : List ORow) : List (Option Nat) := L.map (fun r => r.v.ownBlock)
structure Rows (B : Nat) (w : World) (L : List ORow) : Prop where
 own : ∀ r ∈ L, w.ownsRow B r.ty r.size r.v r.n r.xs
 apart : L.Pairwise (fun r r' => r.v.ownBlock = .none ∨ r.v.ownBlock ≠ r'.v.ownBlock)
theorem Rows.ge {B : Nat} {w : World} {L : List ORow} (h : Rows B w L) : ∀ k, some k ∈ obs L → B ≤ k ∧ k < w.heap.size := fun k hk => by
 obtain ⟨r, hr, e⟩ := List.mem_map.1 hk
 exact (h.own r hr).lt k e
theorem Rows.grown {B : Nat} {w w' : World} {L : List ORow} {X : Option Nat} (h : Rows B w L) (hg : w.grownBy w' X) (hX : ∀ k, X = some k → k < B) : Rows B w' L :=
 ⟨fun r hr => (h.own r hr).kept hg (by
  cases he : r.v.ownBlock with
  | none => exact .inl rfl
  | some k =>
   right
   intro e
   have := ((h.own r hr).lt k he).1
   have := hX k e.symm
   omega), h.apart⟩
theorem Rows.push {B : Nat} {w w' : World} {L M : List ORow} {r : ORow} {v' : Value} {n' : Nat} {xs' : List Value} (h : Rows B w (L ++ r :: M)) (ho : w'.ownsRow B r.ty r.size v' n' xs') (hg : w.grownBy w' r.v.ownBlock) (hat : v'.ownBlock = r.v.ownBlock ∨ ∃ g, v'.ownBlock = some g ∧ w.heap.size ≤ g) :
  Rows B w' (L ++ ⟨r.ty, r.size, v', n', xs'⟩ :: M) ∧ FLe (fragU w B (obs (L ++ r :: M))) (fragU w' B (obs (L ++ ⟨r.ty, r.size, v', n', xs'⟩ :: M))) := by
 have hp := List.pairwise_append.1 h.apart
 have hc := List.pairwise_cons.1 hp.2.1
 have hne1 : ∀ x ∈ L, x.v.ownBlock = .none ∨ x.v.ownBlock ≠ r.v.ownBlock := fun x hx => hp.2.2 x hx r (by simp)
 have hne2 : ∀ x ∈ M, x.v.ownBlock = .none ∨ x.v.ownBlock ≠ r.v.ownBlock := fun x hx => by
  rcases hc.1 x hx with h1 | h1
  ·rw [h1]
   cases hx' : x.v.ownBlock with
   | none => exact .inl rfl
   | some k => exact .inr (by simp)
  ·exact .inr (fun e => h1 e.symm)
 have hnew : ∀ x, x ∈ L ++ r :: M → (x.v.ownBlock = .none ∨ x.v.ownBlock ≠ r.v.ownBlock) → (x.v.ownBlock = .none ∨ x.v.ownBlock ≠ v'.ownBlock) := fun x hx hne => by
  rcases hne with h1 | h1
  ·exact .inl h1
  ·right
   rcases hat with h2 | ⟨g, h2, h3⟩
   ·rw [h2]; exact h1
   ·intro e
    have := ((h.own x hx).lt g (e.trans h2)).2
    omega
 refine ⟨⟨fun x hx => ?_, ?_⟩, fragU_grown hg (fun k hk => .inr ?_) (fun k hk => ?_)⟩
 ·rcases List.mem_append.1 hx with hx | hx
  ·exact (h.own x (by simp [hx])).kept hg (hne1 x hx)
  ·rcases List.mem_cons.1 hx with rfl | hx
   ·exact ho
   ·exact (h.own x (by simp [hx])).kept hg (hne2 x hx)
 ·refine List.pairwise_append.2 ⟨hp.1, List.pairwise_cons.2 ⟨fun x hx => ?_, hc.2⟩, fun x hx y hy => ?_⟩
  ·rcases hnew x (by simp [hx]) (hne2 x hx) with h1 | h1
   ·show v'.ownBlock = .none ∨ v'.ownBlock ≠ x.v.ownBlock
    rw [h1]
    cases v'.ownBlock with
    | none => exact .inl rfl
    | some k => exact .inr (by simp)
   ·exact .inr (fun e => h1 e.symm)
  ·rcases List.mem_cons.1 hy with rfl | hy
   ·exact hnew x (by simp [hx]) (hne1 x hx)
   ·exact hp.2.2 x hx y (by simp [hy])
 ·show r.v.ownBlock ∈ obs (L ++ r :: M)
  unfold obs; simp
 ·unfold obs at hk ⊢
  simp only [List.map_append, List.map_cons, List.mem_append, List.mem_cons] at hk ⊢
  rcases hk with hk | hk | hk
  ·exact .inl (.inl hk)
  ·rcases hat with h2 | ⟨g, h2, h3⟩
   ·left; right; left; rw [hk]; exact h2
   ·right; rw [h2] at hk; cases hk; exact h3
  ·exact .inl (.inr (.inr hk))
theorem Rows.nil (B : Nat) (w : World) (L : List ORow) (h : ∀ r ∈ L, r.v = .slice .none 0 0 ∧ r.n = 0 ∧ r.xs = []) : Rows B w L := by
 refine ⟨fun r hr => ?_, ?_⟩
 ·obtain ⟨h1, h2, h3⟩ := h r hr
  rw [h1, h2, h3]
  exact World.ownsRow_nil _ _ _ _
 ·induction L with
  | nil => exact List.Pairwise.nil
  | cons r M ih =>
   refine List.pairwise_cons.2 ⟨fun x hx => .inl ?_, ih (fun x hx => h x (by simp [hx]))⟩
   rw [(h r (by simp)).1]; rfl
theorem HRow.of_ownsU {w : World} {B base : Nat} {e : TypeId} {size : Nat} {v : Value} {n : Nat} {xs : List Value} (ho : w.ownsRow base e size v n xs) (hB : B ≤ base) : ∃ a cap, v = .slice a n cap ∧ HRow (fragU w B []) a xs ∧ n ≤ cap ∧ cap ≤ maxLen ∧ (a = .none → cap = 0) := by
 have hlen := ho.1
 rcases ho.2 with ⟨rfl, rfl⟩ | ⟨g, cap, cur, rfl, hb, hg, hnc, hcm, hcs, htake⟩
 ·exact ⟨none, 0, rfl, .inl (List.eq_nil_of_length_eq_zero (by simpa using hlen)), Nat.le_refl _, Nat.zero_le _, fun _ => rfl⟩
 ·refine ⟨_, cap, rfl, .inr ⟨g, 0, cur, e, (0, 0), rfl, ?_, fun i hi => ?_⟩, hnc, hcm, fun e => by cases e⟩
  ·unfold fragU fragE; rw [if_pos (by omega), if_neg (by simp)]; exact hg
  ·rw [Nat.zero_add, ← htake, List.getElem?_take, if_pos (by omega)]; simp
theorem FlatV.of_ownsU {α : Type} {f : α → List Value} {s : Nat} {w : World} {B base : Nat} {e : TypeId} {v : Value} {xs : List α} (ho : w.ownsRow base e s v xs.length (xs.flatMap f)) (hB : B ≤ base) : FlatV f (fragU w B []) v xs := by
 obtain ⟨a, cap, rfl, hrow, h1, h2, h0⟩ := HRow.of_ownsU ho hB
 exact ⟨a, cap, rfl, h1, h2, h0, hrow⟩
theorem FlatC.of_ownsU {s : Nat} {w : World} {B base : Nat} {e : TypeId} {v : Value} {es : List (List Value)} (ho : w.ownsRow base e s v es.length es.flatten) (hB : B ≤ base) (hes : ∀ x ∈ es, x.length = s) : FlatC s (fragU w B []) v es := by
 obtain ⟨a, cap, rfl, hrow, h1, h2, h0⟩ := HRow.of_ownsU ho hB
 exact ⟨a, cap, rfl, h1, h2, h0, hrow, hes⟩
theorem own_one {w : World} {B : Nat} {e : TypeId} {size : Nat} {v : Value} {n : Nat} {xs : List Value} (h : w.ownsRow B e size v n xs) : v.oneCell' = true := by
 rcases h.2 with ⟨rfl, _⟩ | ⟨g, cap, cur, rfl, _⟩ <;> rfl
end Go.Proofs.YtebekgdjknenlaaGreatDoor
