/- The blocks that a call itself laid, as one list of addresses and cells: laid, read, stored over, kept through calls. Two shapes of a region that draws, for all functions alike: 'return x, i, s' and 'return x, i, f(j)', with x and s in blocks of the call's own. A call under way: the blocks that it laid, its own rows, what was read of the rest of its new memory. More shapes of a region that draws: values, then one struct stored: 'return "", nil, i, s', 'return a, b, i, s'. More shapes of a region that draws: 'return x, s', 'return x, f(j)', 'return T{}, i, s'. -/
import Derived.Test.YtpcfdngnmigkfaaGreatDoorGroupA
set_option linter.unusedVariables false
set_option linter.unusedSimpArgs false
namespace Go.Proofs.YtpcfdngnmigkfaaGreatDoor
open Go.RowKit
structure Own (w0 : World) (l : List (Nat × List Value)) (w : World) : Prop where
 below : Below w0.heap.size w0 w
 nodup : (l.map (·.1)).Nodup
 blk : ∀ x ∈ l, w0.heap.size ≤ x.1 ∧ Blk w x.1 x.2
theorem Own.nil (w : World) : Own w [] w := ⟨Below.refl _ _, List.nodup_nil, fun _ h => by cases h⟩
theorem Own.at {w0 w : World} {l : List (Nat × List Value)} (h : Own w0 l w) (i : Nat) {g : Nat} {cs : List Value} (hi : l[i]? = some (g, cs)) : Blk w g cs := (h.blk _ (List.mem_of_getElem? hi)).2
theorem Own.ge {w0 w : World} {l : List (Nat × List Value)} (h : Own w0 l w) (i : Nat) {g : Nat} {cs : List Value} (hi : l[i]? = some (g, cs)) : w0.heap.size ≤ g := (h.blk _ (List.mem_of_getElem? hi)).1
theorem Own.call {w0 w w' : World} {l : List (Nat × List Value)} (h : Own w0 l w) (hb : Below w.heap.size w w') : Own w0 l w' :=
 ⟨h.below.trans (hb.mono h.below.size), h.nodup, fun x hx => ⟨(h.blk x hx).1, (h.blk x hx).2.below hb (h.blk x hx).2.lt⟩⟩
theorem Own.drew {w0 w : World} {l : List (Nat × List Value)} (h : Own w0 l w) : Own w0 l w.drew := ⟨h.below.drew, h.nodup, h.blk⟩
theorem Own.drewN {w0 w : World} {l : List (Nat × List Value)} (h : Own w0 l w) (n : Nat) : Own w0 l (w.drewN n) := ⟨Below.drewN h.below n, h.nodup, h.blk⟩
theorem Own.lay {w0 w : World} {l : List (Nat × List Value)} (h : Own w0 l w) (cs : List Value) (t : TypeId) : Own w0 ((w.heap.size, cs) :: l) (w.alloc (.cells cs.toArray t)) := by
 refine ⟨h.below.alloc h.below.size _, ?_, ?_⟩
 ·rw [List.map_cons, List.nodup_cons]
  refine ⟨fun hm => ?_, h.nodup⟩
  obtain ⟨x, hx, e⟩ := List.mem_map.1 hm
  have := (h.blk x hx).2.lt
  omega
 ·intro x hx
  rcases List.mem_cons.1 hx with rfl | hx
  ·exact ⟨h.below.size, Blk.new w t cs⟩
  ·exact ⟨(h.blk x hx).1, (h.blk x hx).2.alloc _⟩
theorem map_set_fst {l : List (Nat × List Value)} {i : Nat} {g : Nat} {cs ds : List Value} (hi : l[i]? = some (g, cs)) : (l.set i (g, ds)).map (·.1) = l.map (·.1) := by
 rw [List.map_set]
 apply List.ext_getElem?
 intro j
 rw [List.getElem?_set]
 by_cases h : i = j
 ·subst h
  rw [if_pos rfl, List.getElem?_map, hi]
  have := (List.getElem?_eq_some_iff.1 hi).1
  simp [this]
 ·rw [if_neg h]
theorem Own.set {w0 w w' : World} {l : List (Nat × List Value)} (h : Own w0 l w) (i : Nat) {g : Nat} {cs ds : List Value} (hi : l[i]? = some (g, cs)) (hB : Blk w' g ds) (hg : w.grownBy w' (some g)) : Own w0 (l.set i (g, ds)) w' := by
 refine ⟨Below.grown h.below hg h.below.size (fun _ e => by cases e; exact h.ge i hi), by rw [map_set_fst hi]; exact h.nodup, fun x hx => ?_⟩
 obtain ⟨j, hj, e⟩ := List.mem_iff_getElem.1 hx
 have hil := (List.getElem?_eq_some_iff.1 hi).1
 rw [List.length_set] at hj
 rw [List.getElem_set] at e
 by_cases hij : i = j
 ·rw [if_pos hij] at e
  subst e
  exact ⟨h.ge i hi, hB⟩
 ·rw [if_neg hij] at e
  have hx' : x ∈ l := by rw [← e]; exact List.getElem_mem hj
  refine ⟨(h.blk x hx').1, (h.blk x hx').2.grown hg (fun e2 => hij ?_)⟩
  have hxg : x.1 = g := Option.some.inj e2
  have h1 : (l.map (·.1))[i]'(by simpa using hil) = (l.map (·.1))[j]'(by simpa using hj) := by
   rw [List.getElem_map, List.getElem_map, e, hxg]
   have := (List.getElem?_eq_some_iff.1 hi).2
   rw [this]
  exact (List.getElem_inj h.nodup).1 h1
theorem Own.sub {w0 w : World} {l l' : List (Nat × List Value)} (h : Own w0 l w) (hs : l'.Sublist l) : Own w0 l' w := ⟨h.below, h.nodup.sublist (hs.map _), fun x hx => h.blk x (hs.subset hx)⟩
section
variable {P : Program} {ops : Array Oper} {rest : List Oper} {op : Oper} {a : Act} {w w0 : World} {Q : Exit → Act → World → Prop} {l : List (Nat × List Value)}
theorem wpList_alloc_own (hgd : Region.wanted op (yielded ops a.tmps) = true) (ty : TypeId) (ho : op.op = .alloc ty) (zs : List Value) (hz : (P.info? ty).map (·.zero) = some (some (.agg zs.toArray))) (HO : Own w0 l w)
  (h : ∀ w2 g, Own w0 ((g, zs) :: l) w2 → wpList P ops Q rest (a.put op.dst (.pointer (some ⟨g, 0, none⟩))) w2) : wpList P ops Q (op :: rest) a w := by
 refine BigFrame.wpList_want hgd fun K hK => ?_
 unfold Oper.wp execOp
 cases hq : P.info? ty with
 | none => simp [hq] at hz
 | some i =>
  have hs : i.zero = some (.agg zs.toArray) := by simpa [hq] using hz
  simp only [ho, Instr.alloc, zeroValue, typeInfo, hq, hs, newVar, newRow, Value.cells, Sem.run_bind, Sem.run_pure, run_newObj, Result.andThen_ok]
  simp [hq, hs, newVar, newRow, Value.cells]
  exact hK _ _ (h _ _ (HO.lay zs ty))
theorem wpList_box_own (hgd : Region.wanted op (yielded ops a.tmps) = true) (ty : TypeId) (x : Operand) (ho : op.op = .box ty x) (cs : List Value) (hx : a.eval x = .agg cs.toArray) (HO : Own w0 l w)
  (h : ∀ w2 g, Own w0 ((g, cs) :: l) w2 → wpList P ops Q rest (a.put op.dst (.pointer (some ⟨g, 0, none⟩))) w2) : wpList P ops Q (op :: rest) a w := by
 refine BigFrame.wpList_want hgd fun K hK => ?_
 unfold Oper.wp execOp
 simp only [ho, hx, Instr.box, newVar, newRow, Value.cells, Sem.run_bind, Sem.run_pure, run_newObj, Result.andThen_ok]
 exact hK _ _ (h _ _ (HO.lay cs ty))
theorem wpList_store_own (i : Nat) (hgd : Region.wanted op (yielded ops a.tmps) = true) (ty : TypeId) (x y : Operand) (ho : op.op = .store ty x y) (g o : Nat) (vs : List Value) (hx : a.eval x = .pointer (some ⟨g, o, none⟩)) (hy : a.eval y = .agg vs.toArray)
  (HO : Own w0 l w) {cs ds : List Value} (hi : l[i]? = some (g, cs)) (hs : (P.info? ty).map (·.size) = some vs.length) (hle : o + vs.length ≤ cs.length) (h1 : ∀ u ∈ vs, u.oneCell' = true) (hd : patch cs o vs = ds)
  (h : ∀ w2, Own w0 (l.set i (g, ds)) w2 → wpList P ops Q rest (a.put op.dst undef) w2) : wpList P ops Q (op :: rest) a w :=
 wpList_store_blk hgd ty x y ho g o vs hx hy cs (HO.at i hi) hs hle h1 (fun w2 h2 h3 _ => h w2 (HO.set i hi (hd ▸ h2) h3))
theorem wpList_store_own1 (i : Nat) (hgd : Region.wanted op (yielded ops a.tmps) = true) (ty : TypeId) (x y : Operand) (ho : op.op = .store ty x y) (g o : Nat) (v : Value) (hx : a.eval x = .pointer (some ⟨g, o, none⟩)) (hy : a.eval y = v)
  (HO : Own w0 l w) {cs ds : List Value} (hi : l[i]? = some (g, cs)) (hs : (P.info? ty).map (·.size) = some 1) (hle : o + 1 ≤ cs.length) (h1 : v.oneCell' = true) (hd : patch cs o [v] = ds)
  (h : ∀ w2, Own w0 (l.set i (g, ds)) w2 → wpList P ops Q rest (a.put op.dst undef) w2) : wpList P ops Q (op :: rest) a w :=
 wpList_store_blk1 hgd ty x y ho g o v hx hy cs (HO.at i hi) hs hle h1 (fun w2 h2 h3 _ => h w2 (HO.set i hi (hd ▸ h2) h3))
theorem wpList_load_own (i : Nat) (hgd : Region.wanted op (yielded ops a.tmps) = true) (ty : TypeId) (x : Operand) (ho : op.op = .load ty x) (g : Nat) (hx : a.eval x = .pointer (some ⟨g, 0, none⟩)) (HO : Own w0 l w) {cs : List Value} (hi : l[i]? = some (g, cs)) (d : TypeDesc)
  (hu : P.underlying ty = some d) (hd : d.isRow = true) (hs : (P.info? ty).map (·.size) = some cs.length)
  (h : wpList P ops Q rest (a.put op.dst (.agg cs.toArray)) w) : wpList P ops Q (op :: rest) a w :=
 wpList_load_seg hgd ty x ho g 0 hx cs d (HO.at i hi).whole hu hd hs h
theorem wp_store_own' {K : Act → World → Prop} (i : Nat) (ty : TypeId) (x y : Operand) (ho : op.op = .store ty x y) (g o : Nat) (v : Value) (vs : List Value) (hx : a.eval x = .pointer (some ⟨g, o, none⟩)) (hy : a.eval y = v) (hv : v.cells = vs.toArray)
  (HO : Own w0 l w) {cs ds : List Value} (hi : l[i]? = some (g, cs)) (hs : (P.info? ty).map (·.size) = some vs.length) (hle : o + vs.length ≤ cs.length) (h1 : ∀ u ∈ vs, u.oneCell' = true) (hd : patch cs o vs = ds)
  (h : ∀ w2, Own w0 (l.set i (g, ds)) w2 → K (a.put op.dst undef) w2) : op.wp P a w K Q :=
 wp_store_blk ty x y ho g o v vs cs hx hy hv (HO.at i hi) hs hle h1 (h _ (HO.set i hi (hd ▸ (HO.at i hi).set _) (setRow_grown _)))
end
theorem run_load_blk {P : Program} {w : World} {g : Nat} {ty : TypeId} {cs : List Value} (hb : Blk w g cs) (d : TypeDesc) (hu : P.underlying ty = some d) (hd : (match d with | .struct _ | .array _ _ => true | _ => false) = true) (hi : (P.info? ty).map (·.size) = some cs.length) :
  (loadVar ty ⟨g, 0, none⟩).run P w = .ok (.agg cs.toArray) w := by
 obtain ⟨t, hb⟩ := hb
 exact run_loadVar_row w g t ty cs.toArray (0, 0) d hb hu hd (by simpa using hi)
section
variable {P : Program} {fn : Func} {tmps : Array Value} {w : World} {p q u v : Tmp} {T1 T2 : TypeId} {g1 g2 : Nat} {c1 c2 : List Value} {x y : Value} {d1 d2 : TypeDesc}
theorem results_ctc (h : fn.results = #[.cell p T1, .tmp u, .cell q T2]) (h1 : tmps.getD p undef = .pointer (some ⟨g1, 0, none⟩)) (hx : tmps.getD u undef = x) (h2 : tmps.getD q undef = .pointer (some ⟨g2, 0, none⟩))
  (r1 : (loadVar T1 ⟨g1, 0, none⟩).run P w = .ok (.agg c1.toArray) w) (r2 : (loadVar T2 ⟨g2, 0, none⟩).run P w = .ok (.agg c2.toArray) w) : (results fn tmps).run P w = .ok (.tuple #[.agg c1.toArray, x, .agg c2.toArray]) w := by
 have h1' : tmps[p]?.getD undef = .pointer (some ⟨g1, 0, none⟩) := by simpa using h1
 have h2' : tmps[q]?.getD undef = .pointer (some ⟨g2, 0, none⟩) := by simpa using h2
 have hx' : tmps[u]?.getD undef = x := by simpa using hx
 simp [results, h, h1', h2', hx', asAddr, r1, r2, Sem.run_bind, Result.andThen]
theorem results_tc (h : fn.results = #[.tmp u, .cell q T2]) (hx : tmps.getD u undef = x) (h2 : tmps.getD q undef = .pointer (some ⟨g2, 0, none⟩)) (r2 : (loadVar T2 ⟨g2, 0, none⟩).run P w = .ok (.agg c2.toArray) w) : (results fn tmps).run P w = .ok (.tuple #[x, .agg c2.toArray]) w := by
 have h2' : tmps[q]?.getD undef = .pointer (some ⟨g2, 0, none⟩) := by simpa using h2
 have hx' : tmps[u]?.getD undef = x := by simpa using hx
 simp [results, h, h2', hx', asAddr, r2, Sem.run_bind, Result.andThen]
theorem results_ttc (h : fn.results = #[.tmp u, .tmp v, .cell q T2]) (hx : tmps.getD u undef = x) (hy : tmps.getD v undef = y) (h2 : tmps.getD q undef = .pointer (some ⟨g2, 0, none⟩)) (r2 : (loadVar T2 ⟨g2, 0, none⟩).run P w = .ok (.agg c2.toArray) w) : (results fn tmps).run P w = .ok (.tuple #[x, y, .agg c2.toArray]) w := by
 have h2' : tmps[q]?.getD undef = .pointer (some ⟨g2, 0, none⟩) := by simpa using h2
 have hx' : tmps[u]?.getD undef = x := by simpa using hx
 have hy' : tmps[v]?.getD undef = y := by simpa using hy
 simp [results, h, h2', hx', hy', asAddr, r2, Sem.run_bind, Result.andThen]
end
end Go.Proofs.YtpcfdngnmigkfaaGreatDoor
namespace Go.Proofs.YtpcfdngnmigkfaaGreatDoor
open Go.RowKit
def okTake (ops : Array Oper) (fin i : Nat) (L : Array Bool) : Bool :=
 Region.noSelect ops && Region.free .any ops L i && (Region.ready .any ops L).contains i && (waitsT .any ops i ops.size fin && (fin != i)) && closedB .any ops L
def ups (ops : Array Oper) : Nat → Array Bool
 | 0 => Array.replicate ops.size false
 | k + 1 => (ups ops k).setIfInBounds k true
def chk6 (ops : Array Oper) : Bool :=
 okTake ops 5 0 (ups ops 0) && okTake ops 5 1 (ups ops 1) && okTake ops 5 2 (ups ops 2) && (Region.ready .any ops (ups ops 3) == [3]) && okTake ops 5 4 (ups ops 4) && (Region.ready .any ops (ups ops 5) == [5]) && (Region.ready .any ops (ups ops 6) == [])
def chk7 (ops : Array Oper) : Bool :=
 okTake ops 6 0 (ups ops 0) && okTake ops 6 1 (ups ops 1) && okTake ops 6 2 (ups ops 2) && (Region.ready .any ops (ups ops 3) == [3]) && (Region.ready .any ops (ups ops 4) == [4]) && okTake ops 6 5 (ups ops 5) && (Region.ready .any ops (ups ops 6) == [6]) && (Region.ready .any ops (ups ops 7) == [])
theorem patch_whole' (c z : List Value) (h : z.length = c.length) : patch z 0 c = c := by simp [patch, ← h]
theorem run_move {P : Program} {o : Oper} {ρ : Operand → Value} {x : Operand} (h : o.op = .move x ∨ o.op = .assign x) (w : World) : (execOp ρ o).run P w = .ok (.value (ρ x)) w := by
 unfold execOp; rcases h with h | h <;> rw [h] <;> rfl
theorem wanted_plain {o : Oper} {ops : Array Oper} {a : Act} (h : o.guard = none) : Region.wanted o (yielded ops a.tmps) = true := by simp [Region.wanted, h]
theorem yields_move {P : Program} {ops : Array Oper} {S : World → Prop} {o : Oper} {a : Act} {x : Operand} {v : Value} (hg : o.guard = none) (h : o.op = .move x ∨ o.op = .assign x) (hv : a.eval x = v) : YieldsIf P ops S o v a :=
 .inl ⟨wanted_plain hg, fun w _ => by rw [run_move h, hv]⟩
section
variable {P : Program} {id : Nat} {Q : Exit → Act → World → Prop} {a : Act} {w w0 : World} {l : List (Nat × List Value)}
theorem wp_ret6 {o0 o1 o2 o3 o4 o5 : Oper} (hm : P.follows .mixedOrders = true) (hc : chk6 #[o0, o1, o2, o3, o4, o5] = true) (hg : [o0.guard, o1.guard, o2.guard, o3.guard, o4.guard, o5.guard] = [none, none, none, none, none, none])
  (hQ0 : ∀ (d : Tmp) (v : Value) c a w, Q (.panic c) (a.put (some d) v) w → Q (.panic c) a w) (HO : Own w0 l w)
  (v : Value) (i1 i2 j1 j2 : Nat) {g1 g2 h1 h2 : Nat} {c1 c2 z1 z2 : List Value} (hi1 : l[i1]? = some (g1, c1)) (hi2 : l[i2]? = some (g2, c2)) (hj1 : l[j1]? = some (h1, z1)) (hj2 : l[j2]? = some (h2, z2)) (n1 : j1 ≠ i1) (n2 : j1 ≠ i2) (n3 : j1 ≠ j2)
  {T1 T2 : TypeId} {x0 x1 x2 p3 y3 x4 p5 y5 : Operand} (k0 : o0.op = .load T1 x0) (e0 : a.eval x0 = .pointer (some ⟨g1, 0, none⟩))
  (k1 : o1.op = .move x1 ∨ o1.op = .assign x1) (e1 : (a.put o0.dst (.agg c1.toArray)).eval x1 = v)
  (k2 : o2.op = .load T2 x2) (e2 : ((a.put o0.dst (.agg c1.toArray)).put o1.dst v).eval x2 = .pointer (some ⟨g2, 0, none⟩))
  {A3 : Act} (hA3 : ((a.put o0.dst (.agg c1.toArray)).put o1.dst v).put o2.dst (.agg c2.toArray) = A3)
  (k3 : o3.op = .store T1 p3 y3) (e3 : A3.eval p3 = .pointer (some ⟨h1, 0, none⟩)) (f3 : A3.eval y3 = .agg c1.toArray)
  (k4 : o4.op = .move x4 ∨ o4.op = .assign x4) (e4 : (A3.put o3.dst undef).eval x4 = v)
  {A5 : Act} (hA5 : (A3.put o3.dst undef).put o4.dst v = A5)
  (k5 : o5.op = .store T2 p5 y5) (e5 : A5.eval p5 = .pointer (some ⟨h2, 0, none⟩)) (f5 : A5.eval y5 = .agg c2.toArray)
  {d1 d2 : TypeDesc} (u1 : P.underlying T1 = some d1) (r1 : d1.isRow = true) (s1 : (P.info? T1).map (·.size) = some c1.length) (l1 : z1.length = c1.length) (b1 : ∀ u ∈ c1, u.oneCell' = true)
  (u2 : P.underlying T2 = some d2) (r2 : d2.isRow = true) (s2 : (P.info? T2).map (·.size) = some c2.length) (l2 : z2.length = c2.length) (b2 : ∀ u ∈ c2, u.oneCell' = true)
  (h : ∀ w', Own w0 ((l.set j1 (h1, c1)).set j2 (h2, c2)) w' → Q .normal (A5.put o5.dst undef) w') : (Code.region id #[o0, o1, o2, o3, o4, o5] true).wp P Q a w := by
 have hQ : ∀ (o : Oper) (v : Value) c a w, Q (.panic c) (a.put o.dst v) w → Q (.panic c) a w := fun o v c a w => by
  cases o.dst with
  | none => exact fun h => h
  | some d => exact hQ0 d v c a w
 simp only [List.cons.injEq, and_true] at hg
 obtain ⟨g0, g1', g2', g3', g4', g5'⟩ := hg
 simp only [chk6, Bool.and_eq_true, beq_iff_eq] at hc
 obtain ⟨⟨⟨⟨⟨⟨q0, q1⟩, q2⟩, q3⟩, q4⟩, q5⟩, q6⟩ := hc
 simp only [ups] at q0 q1 q2 q3 q4 q5 q6
 have hB1 : Blk w.drew g1 c1 := HO.drew.at i1 hi1
 have hB2 : Blk w.drew g2 c2 := HO.drew.at i2 hi2
 refine wp_region_G 5 (fun _ => True) (fun w' => Blk w' g1 c1 ∧ Blk w' g2 c2) hm trivial ⟨hB1, hB2⟩ (fun _ => ?_)
 refine wpAnyG_take (i := 0) (oi := o0) (v := .agg c1.toArray) rfl q0 (hQ o0 _) (yieldsIf_load_mid (wanted_plain g0) T1 _ k0 g1 0 e0 c1 _ (fun w h => h.2.1.whole) u1 r1 s1) (InvG.mk trivial ⟨hB1, hB2⟩) ?_
 refine wpAnyG_take (i := 1) (oi := o1) (v := v) rfl q1 (hQ o1 _) (yields_move g1' k1 e1) (InvG.mk trivial ⟨hB1, hB2⟩) ?_
 refine wpAnyG_take (i := 2) (oi := o2) (v := .agg c2.toArray) rfl q2 (hQ o2 _) (yieldsIf_load_mid (wanted_plain g2') T2 _ k2 g2 0 e2 c2 _ (fun w h => h.2.2.whole) u2 r2 s2) (InvG.mk trivial ⟨hB1, hB2⟩) ?_
 refine wpAnyG_ready (rs := [3]) q3 (by simp) ?_
 refine AllReadyG.plain (o := o3) rfl g3' (fun K hK => ?_) AllReadyG.nil
 rw [hA3]
 refine wp_store_own' j1 T1 _ _ k3 h1 0 (.agg c1.toArray) c1 e3 f3 rfl HO.drew hj1 s1 (by omega) b1 (patch_whole' c1 z1 l1) ?_
 intro w9 HO9
 have n3' : (l.set j1 (h1, c1))[j2]? = some (h2, z2) := by rw [List.getElem?_set_ne n3]; exact hj2
 have hB1' : Blk w9 g1 c1 := HO9.at i1 (by rw [List.getElem?_set_ne n1]; exact hi1)
 have hB2' : Blk w9 g2 c2 := HO9.at i2 (by rw [List.getElem?_set_ne n2]; exact hi2)
 refine hK.out _ _ (InvG.mk trivial ⟨hB1', hB2'⟩) (fun _ => ?_)
 clear hK
 refine wpAnyG_take (i := 4) (oi := o4) (v := v) rfl q4 (hQ o4 _) (yields_move g4' k4 e4) (InvG.mk trivial ⟨hB1', hB2'⟩) ?_
 refine wpAnyG_ready (rs := [5]) q5 (by simp) ?_
 refine AllReadyG.plain (o := o5) rfl g5' (fun K hK => ?_) AllReadyG.nil
 rw [hA5]
 refine wp_store_own' j2 T2 _ _ k5 h2 0 (.agg c2.toArray) c2 e5 f5 rfl HO9 n3' s2 (by omega) b2 (patch_whole' c2 z2 l2) ?_
 intro w10 HO10
 refine hK.out _ _ (InvG.past trivial (by kernel_rfl)) (fun _ => ?_)
 exact wpAnyG_done q6 (h w10 HO10) _
theorem wp_ret7 {o0 o1 o2 o3 o4 o5 o6 : Oper} (hm : P.follows .mixedOrders = true) (hc : chk7 #[o0, o1, o2, o3, o4, o5, o6] = true) (hg : [o0.guard, o1.guard, o2.guard, o3.guard, o4.guard, o5.guard, o6.guard] = [none, none, none, none, none, none, none])
  (hQ0 : ∀ (d : Tmp) (v : Value) c a w, Q (.panic c) (a.put (some d) v) w → Q (.panic c) a w) (HO : Own w0 l w)
  (v v2 : Value) (i1 j1 j2 : Nat) {g1 h1 h2 : Nat} {c1 c2 z1 z2 : List Value} (hi1 : l[i1]? = some (g1, c1)) (hj1 : l[j1]? = some (h1, z1)) (hj2 : l[j2]? = some (h2, z2)) (n1 : j1 ≠ i1) (n3 : j1 ≠ j2)
  {T1 T2 : TypeId} {x0 x1 x2 p4 y4 x5 p6 y6 : Operand} (k0 : o0.op = .load T1 x0) (e0 : a.eval x0 = .pointer (some ⟨g1, 0, none⟩))
  (k1 : o1.op = .move x1 ∨ o1.op = .assign x1) (e1 : (a.put o0.dst (.agg c1.toArray)).eval x1 = v)
  (k2 : o2.op = .move x2 ∨ o2.op = .assign x2) (e2 : ((a.put o0.dst (.agg c1.toArray)).put o1.dst v).eval x2 = v2)
  {A3 : Act} (hA3 : ((a.put o0.dst (.agg c1.toArray)).put o1.dst v).put o2.dst v2 = A3) {f : FuncId} (k3 : ∀ w, (execOp A3.eval o3).run P w = .ok (.enter f #[v2]) w)
  (hcall : ∀ w', Calls P f #[v2] w' fun e w'' => e = .returned (.agg c2.toArray) ∧ Below w'.heap.size w' w'')
  {A4 : Act} (hA4 : A3.put o3.dst (.agg c2.toArray) = A4) (k4 : o4.op = .store T1 p4 y4) (e4 : A4.eval p4 = .pointer (some ⟨h1, 0, none⟩)) (f4 : A4.eval y4 = .agg c1.toArray)
  (k5 : o5.op = .move x5 ∨ o5.op = .assign x5) (e5 : (A4.put o4.dst undef).eval x5 = v)
  {A6 : Act} (hA6 : (A4.put o4.dst undef).put o5.dst v = A6)
  (k6 : o6.op = .store T2 p6 y6) (e6 : A6.eval p6 = .pointer (some ⟨h2, 0, none⟩)) (f6 : A6.eval y6 = .agg c2.toArray)
  {d1 : TypeDesc} (u1 : P.underlying T1 = some d1) (r1 : d1.isRow = true) (s1 : (P.info? T1).map (·.size) = some c1.length) (l1 : z1.length = c1.length) (b1 : ∀ u ∈ c1, u.oneCell' = true)
  (s2 : (P.info? T2).map (·.size) = some c2.length) (l2 : z2.length = c2.length) (b2 : ∀ u ∈ c2, u.oneCell' = true)
  (h : ∀ w', Own w0 ((l.set j1 (h1, c1)).set j2 (h2, c2)) w' → Q .normal (A6.put o6.dst undef) w') : (Code.region id #[o0, o1, o2, o3, o4, o5, o6] true).wp P Q a w := by
 have hQ : ∀ (o : Oper) (v : Value) c a w, Q (.panic c) (a.put o.dst v) w → Q (.panic c) a w := fun o v c a w => by
  cases o.dst with
  | none => exact fun h => h
  | some d => exact hQ0 d v c a w
 simp only [List.cons.injEq, and_true] at hg
 obtain ⟨g0, g1', g2', g3', g4', g5', g6'⟩ := hg
 simp only [chk7, Bool.and_eq_true, beq_iff_eq] at hc
 obtain ⟨⟨⟨⟨⟨⟨⟨q0, q1⟩, q2⟩, q3⟩, q4⟩, q5⟩, q6⟩, q7⟩ := hc
 simp only [ups] at q0 q1 q2 q3 q4 q5 q6 q7
 have hB1 : Blk w.drew g1 c1 := HO.drew.at i1 hi1
 refine wp_region_G 6 (fun _ => True) (fun w' => Blk w' g1 c1) hm trivial hB1 (fun _ => ?_)
 refine wpAnyG_take (i := 0) (oi := o0) (v := .agg c1.toArray) rfl q0 (hQ o0 _) (yieldsIf_load_mid (wanted_plain g0) T1 _ k0 g1 0 e0 c1 _ (fun w h => h.2.whole) u1 r1 s1) (InvG.mk trivial hB1) ?_
 refine wpAnyG_take (i := 1) (oi := o1) (v := v) rfl q1 (hQ o1 _) (yields_move g1' k1 e1) (InvG.mk trivial hB1) ?_
 refine wpAnyG_take (i := 2) (oi := o2) (v := v2) rfl q2 (hQ o2 _) (yields_move g2' k2 e2) (InvG.mk trivial hB1) ?_
 refine wpAnyG_ready (rs := [3]) q3 (by simp) ?_
 refine AllReadyG.plain (o := o3) rfl g3' (fun K hK => ?_) AllReadyG.nil
 rw [hA3]
 unfold Oper.wp
 rw [k3, Oper.upon_enter]
 refine (hcall _).mono ?_
 rintro e w9 ⟨rfl, hb⟩
 have HO9 := HO.drew.call hb
 have hB9 : Blk w9 g1 c1 := HO9.at i1 hi1
 refine hK.out _ _ (InvG.mk trivial hB9) (fun _ => ?_)
 clear hK
 rw [hA4]
 refine wpAnyG_ready (rs := [4]) q4 (by simp) ?_
 refine AllReadyG.plain (o := o4) rfl g4' (fun K hK => ?_) AllReadyG.nil
 refine wp_store_own' j1 T1 _ _ k4 h1 0 (.agg c1.toArray) c1 e4 f4 rfl HO9 hj1 s1 (by omega) b1 (patch_whole' c1 z1 l1) ?_
 intro w10 HO10
 have n3' : (l.set j1 (h1, c1))[j2]? = some (h2, z2) := by rw [List.getElem?_set_ne n3]; exact hj2
 have hB10 : Blk w10 g1 c1 := HO10.at i1 (by rw [List.getElem?_set_ne n1]; exact hi1)
 refine hK.out _ _ (InvG.mk trivial hB10) (fun _ => ?_)
 clear hK
 refine wpAnyG_take (i := 5) (oi := o5) (v := v) rfl q5 (hQ o5 _) (yields_move g5' k5 e5) (InvG.mk trivial hB10) ?_
 refine wpAnyG_ready (rs := [6]) q6 (by simp) ?_
 refine AllReadyG.plain (o := o6) rfl g6' (fun K hK => ?_) AllReadyG.nil
 rw [hA6]
 refine wp_store_own' j2 T2 _ _ k6 h2 0 (.agg c2.toArray) c2 e6 f6 rfl HO10 n3' s2 (by omega) b2 (patch_whole' c2 z2 l2) ?_
 intro w11 HO11
 refine hK.out _ _ (InvG.past trivial (by kernel_rfl)) (fun _ => ?_)
 exact wpAnyG_done q7 (h w11 HO11) _
end
end Go.Proofs.YtpcfdngnmigkfaaGreatDoor
namespace Go.Proofs.YtpcfdngnmigkfaaGreatDoor
open Go.RowKit
def MonoF (RD : Frag → Prop) : Prop := ∀ h h', FLe h h' → RD h → RD h'
def lbs (l : List (Nat × List Value)) : List (Option Nat) := l.map (fun x => some x.1)
structure OwnR (w0 : World) (l : List (Nat × List Value)) (L : List ORow) (RD : Frag → Prop) (w : World) : Prop where
 own : Own w0 l w
 rows : Rows w0.heap.size w L
 off : ∀ x ∈ l, some x.1 ∉ obs L
 rd : RD (fragU w w0.heap.size (obs L ++ lbs l))
 mono : MonoF RD
theorem OwnR.below {w0 w : World} {l : List (Nat × List Value)} {L : List ORow} {RD : Frag → Prop} (h : OwnR w0 l L RD w) : Below w0.heap.size w0 w := h.own.below
theorem OwnR.start {w0 w : World} {l : List (Nat × List Value)} (h : Own w0 l w) (L : List ORow) (hL : ∀ r ∈ L, r.v = .slice .none 0 0 ∧ r.n = 0 ∧ r.xs = []) : OwnR w0 l L (fun _ => True) w :=
 ⟨h, Rows.nil _ _ _ hL, (fun x _ hx => by
  obtain ⟨r, hr, e⟩ := List.mem_map.1 hx
  rw [(hL r hr).1] at e; cases e), trivial, fun _ _ _ h => h⟩
theorem OwnR.rowNe {w0 w : World} {l : List (Nat × List Value)} {L : List ORow} {RD : Frag → Prop} (h : OwnR w0 l L RD w) {r : ORow} (hr : r ∈ L) {x : Nat × List Value} (hx : x ∈ l) : some x.1 ≠ r.v.ownBlock := fun e => h.off x hx (List.mem_map.2 ⟨r, hr, e.symm⟩)
theorem OwnR.call {w0 w w' : World} {l : List (Nat × List Value)} {L : List ORow} {RD : Frag → Prop} (h : OwnR w0 l L RD w) (hb : Below w.heap.size w w') : OwnR w0 l L RD w' :=
 have hg := grown_of_below hb .none
 ⟨h.own.call hb, h.rows.grown hg (fun k e => by cases e), h.off, h.mono _ _ (fragU_grown hg (fun k e => by cases e) (fun k hk => .inl hk)) h.rd, h.mono⟩
theorem OwnR.fresh {w0 w w' : World} {l : List (Nat × List Value)} {L : List ORow} {RD : Frag → Prop} (h : OwnR w0 l L RD w) (hb : Below w.heap.size w w') : FLe (fragU w' w.heap.size []) (fragU w' w0.heap.size (obs L ++ lbs l)) := fun k o e => by
 unfold fragU at e ⊢
 split at e
 ·rename_i hk
  have := h.below.size
  rw [if_pos (by omega)]
  unfold fragE at e ⊢
  rw [if_neg (by simp)] at e
  rw [if_neg (fun hm => by
   rcases List.mem_append.1 hm with h1 | h1
   ·have := (h.rows.ge k h1).2; omega
   ·obtain ⟨x, hx, e2⟩ := List.mem_map.1 h1
    have := (h.own.blk x hx).2.lt
    cases e2; omega)]
  exact e
 ·cases e
theorem OwnR.read {w0 w : World} {l : List (Nat × List Value)} {L : List ORow} {RD RD' : Frag → Prop} (h : OwnR w0 l L RD w) (hm : MonoF RD') (hr : RD (fragU w w0.heap.size (obs L ++ lbs l)) → RD' (fragU w w0.heap.size (obs L ++ lbs l))) : OwnR w0 l L RD' w := ⟨h.own, h.rows, h.off, hr h.rd, hm⟩
theorem OwnR.drew {w0 w : World} {l : List (Nat × List Value)} {L : List ORow} {RD : Frag → Prop} (h : OwnR w0 l L RD w) : OwnR w0 l L RD w.drew :=
 have hg : w.grownBy w.drew .none := grown_of_below (Below.refl _ _).drew .none
 ⟨h.own.drew, h.rows.grown hg (fun k e => by cases e), h.off, h.mono _ _ (fragU_grown hg (fun k e => by cases e) (fun k hk => .inl hk)) h.rd, h.mono⟩
theorem OwnR.lay {w0 w : World} {l : List (Nat × List Value)} {L : List ORow} {RD : Frag → Prop} (h : OwnR w0 l L RD w) (cs : List Value) (t : TypeId) : OwnR w0 ((w.heap.size, cs) :: l) L RD (w.alloc (.cells cs.toArray t)) :=
 have hg := World.grownBy_alloc w (.cells cs.toArray t) none
 ⟨h.own.lay cs t, h.rows.grown hg (fun k e => by cases e), fun x hx => by
  rcases List.mem_cons.1 hx with rfl | hx
  ·exact fun hm => by have := (h.rows.ge _ hm).2; simp at this
  ·exact h.off x hx, h.mono _ _ (fragU_grown hg (fun k e => by cases e) (fun k hk => by
   simp only [lbs, List.map_cons, List.mem_append, List.mem_cons] at hk ⊢
   rcases hk with hk | hk | hk
   ·exact .inl (.inl hk)
   ·cases hk; exact .inr (Nat.le_refl _)
   ·exact .inl (.inr hk))) h.rd, h.mono⟩
theorem lbs_set {l : List (Nat × List Value)} {i g : Nat} {cs ds : List Value} (hi : l[i]? = some (g, cs)) : lbs (l.set i (g, ds)) = lbs l := by
 have := map_set_fst (ds := ds) hi
 unfold lbs
 have h2 : ∀ m : List (Nat × List Value), m.map (fun x => some x.1) = (m.map (·.1)).map some := fun m => by rw [List.map_map]; rfl
 rw [h2, h2, this]
theorem OwnR.set {w0 w w' : World} {l : List (Nat × List Value)} {L : List ORow} {RD : Frag → Prop} (h : OwnR w0 l L RD w) (i : Nat) {g : Nat} {cs ds : List Value} (hi : l[i]? = some (g, cs)) (hB : Blk w' g ds) (hg : w.grownBy w' (some g)) : OwnR w0 (l.set i (g, ds)) L RD w' := by
 have hm := List.mem_of_getElem? hi
 have hgm : some g ∈ lbs l := List.mem_map.2 ⟨_, hm, rfl⟩
 refine ⟨h.own.set i hi hB hg, ⟨fun r hr => (h.rows.own r hr).kept hg (.inr (fun e => h.rowNe hr hm e.symm)), h.rows.apart⟩, fun x hx hmo => ?_, ?_, h.mono⟩
 ·rcases List.mem_or_eq_of_mem_set hx with hx | rfl
  ·exact h.off x hx hmo
  ·exact h.off _ hm hmo
 ·rw [lbs_set hi]
  exact h.mono _ _ (fragU_grown hg (fun k e => .inr (by cases e; exact List.mem_append_right _ hgm)) (fun k hk => .inl hk)) h.rd
theorem OwnR.sub {w0 w : World} {l l' : List (Nat × List Value)} {L : List ORow} {RD : Frag → Prop} (h : OwnR w0 l L RD w) (hs : l'.Sublist l) : OwnR w0 l' L RD w :=
 ⟨h.own.sub hs, h.rows, fun x hx => h.off x (hs.subset hx), h.mono _ _ (fragU_sub _ _ (fun k hk => by
  rcases List.mem_append.1 hk with hk | hk
  ·exact List.mem_append_left _ hk
  ·exact List.mem_append_right _ ((hs.map _).subset hk))) h.rd, h.mono⟩
theorem OwnR.push {w0 w w' : World} {l : List (Nat × List Value)} {L M : List ORow} {RD : Frag → Prop} {r : ORow} {v' : Value} {n' : Nat} {xs' : List Value} (h : OwnR w0 l (L ++ r :: M) RD w)
  (ho : w'.ownsRow w0.heap.size r.ty r.size v' n' xs') (hg : w.grownBy w' r.v.ownBlock) (hat : v'.ownBlock = r.v.ownBlock ∨ ∃ g, v'.ownBlock = some g ∧ w.heap.size ≤ g) : OwnR w0 l (L ++ ⟨r.ty, r.size, v', n', xs'⟩ :: M) RD w' := by
 obtain ⟨hr8, _⟩ := Rows.push h.rows ho hg hat
 have hr : r ∈ L ++ r :: M := by simp
 have hge : ∀ k, r.v.ownBlock = some k → w0.heap.size ≤ k := fun k e => ((h.rows.own r hr).lt k e).1
 refine ⟨⟨Below.grown h.below hg h.below.size (fun k e => hge k e), h.own.nodup, fun x hx => ⟨(h.own.blk x hx).1, (h.own.blk x hx).2.grown hg (h.rowNe hr hx)⟩⟩, hr8, fun x hx hm => ?_, ?_, h.mono⟩
 ·unfold obs at hm
  simp only [List.map_append, List.map_cons, List.mem_append, List.mem_cons] at hm
  have ho2 := h.off x hx
  unfold obs at ho2
  simp only [List.map_append, List.map_cons, List.mem_append, List.mem_cons, not_or] at ho2
  rcases hm with hm | hm | hm
  ·exact ho2.1 hm
  ·rcases hat with h2 | ⟨g, h2, h3⟩
   ·exact ho2.2.1 (hm.trans h2)
   ·have := (h.own.blk x hx).2.lt
    rw [h2] at hm; cases hm; omega
  ·exact ho2.2.2 hm
 ·refine h.mono _ _ (fragU_grown hg (fun k e => .inr ?_) (fun k hk => ?_)) h.rd
  ·refine List.mem_append_left _ ?_
   unfold obs; simp
  ·unfold obs at hk ⊢
   simp only [List.map_append, List.map_cons, List.mem_append, List.mem_cons] at hk ⊢
   rcases hk with (hk | hk | hk) | hk
   ·exact .inl (.inl (.inl hk))
   ·rcases hat with h2 | ⟨g, h2, h3⟩
    ·left; left; right; left; rw [hk]; exact h2
    ·right; rw [h2] at hk; cases hk; exact h3
   ·exact .inl (.inl (.inr (.inr hk)))
   ·exact .inl (.inr hk)
theorem OwnR.lit {w0 w : World} {l : List (Nat × List Value)} {L : List ORow} {RD : Frag → Prop} (h : OwnR w0 l L RD w) (t : TypeId) (size : Nat) : OwnR w0 l (⟨t, size, .slice (some ⟨w.heap.size, 0, none⟩) 0 0, 0, []⟩ :: L) RD (w.alloc (.cells #[] t)) := by
 have hb : Below w.heap.size w (w.alloc (.cells #[] t)) := (Below.refl _ _).alloc (Nat.le_refl _) _
 have hg := World.grownBy_alloc w (.cells #[] t) none
 have h2 := h.rows.grown hg (fun k e => by cases e)
 refine ⟨h.own.call hb, ⟨fun r hr => ?_, List.pairwise_cons.2 ⟨fun r hr => .inr (fun e => ?_), h.rows.apart⟩⟩, fun x hx hm => ?_, ?_, h.mono⟩
 ·rcases List.mem_cons.1 hr with rfl | hr
  ·exact World.ownsRow_lit w #[] 0 h.below.size (by decide) (by simp)
  ·exact h2.own r hr
 ·have := ((h.rows.own r hr).lt w.heap.size e.symm).2; omega
 ·rcases List.mem_cons.1 hm with e | hm
  ·have h3 := (h.own.blk x hx).2.lt
   have h4 : x.1 = w.heap.size := Option.some.inj e
   omega
  ·exact h.off x hx hm
 ·exact h.mono _ _ (fragU_grown hg (fun k e => by cases e) (fun k hk => by
   simp only [obs, List.map_cons, List.cons_append, List.mem_cons] at hk
   rcases hk with hk | hk
   ·exact .inr (by cases hk; exact Nat.le_refl _)
   ·exact .inl hk)) h.rd
theorem OwnR.done {w0 w : World} {l : List (Nat × List Value)} {L : List ORow} {RD : Frag → Prop} (h : OwnR w0 l L RD w) : RD (fragU w w0.heap.size []) := h.mono _ _ (fragU_sub _ _ (fun k hk => by cases hk)) h.rd
section
variable {P : Program} {ops : Array Oper} {rest : List Oper} {op : Oper} {a : Act} {w w0 : World} {Q : Exit → Act → World → Prop} {l : List (Nat × List Value)} {L M : List ORow} {RD : Frag → Prop}
theorem wpList_alloc_ownR (hgd : Region.wanted op (yielded ops a.tmps) = true) (ty : TypeId) (ho : op.op = .alloc ty) (zs : List Value) (hz : (P.info? ty).map (·.zero) = some (some (.agg zs.toArray))) (HO : OwnR w0 l L RD w)
  (h : ∀ w2 g, OwnR w0 ((g, zs) :: l) L RD w2 → wpList P ops Q rest (a.put op.dst (.pointer (some ⟨g, 0, none⟩))) w2) : wpList P ops Q (op :: rest) a w := by
 refine BigFrame.wpList_want hgd fun K hK => ?_
 unfold Oper.wp execOp
 cases hq : P.info? ty with
 | none => simp [hq] at hz
 | some i =>
  have hs : i.zero = some (.agg zs.toArray) := by simpa [hq] using hz
  simp only [ho, Instr.alloc, zeroValue, typeInfo, hq, hs, newVar, newRow, Value.cells, Sem.run_bind, Sem.run_pure, run_newObj, Result.andThen_ok]
  simp [hq, hs, newVar, newRow, Value.cells]
  exact hK _ _ (h _ _ (HO.lay zs ty))
theorem wpList_store_ownR (i : Nat) (hgd : Region.wanted op (yielded ops a.tmps) = true) (ty : TypeId) (x y : Operand) (ho : op.op = .store ty x y) (g o : Nat) (vs : List Value) (hx : a.eval x = .pointer (some ⟨g, o, none⟩)) (hy : a.eval y = .agg vs.toArray)
  (HO : OwnR w0 l L RD w) {cs ds : List Value} (hi : l[i]? = some (g, cs)) (hs : (P.info? ty).map (·.size) = some vs.length) (hle : o + vs.length ≤ cs.length) (h1 : ∀ u ∈ vs, u.oneCell' = true) (hd : patch cs o vs = ds)
  (h : ∀ w2, OwnR w0 (l.set i (g, ds)) L RD w2 → wpList P ops Q rest (a.put op.dst undef) w2) : wpList P ops Q (op :: rest) a w :=
 wpList_store_blk hgd ty x y ho g o vs hx hy cs (HO.own.at i hi) hs hle h1 (fun w2 h2 h3 _ => h w2 (HO.set i hi (hd ▸ h2) h3))
theorem wpList_store_ownR1 (i : Nat) (hgd : Region.wanted op (yielded ops a.tmps) = true) (ty : TypeId) (x y : Operand) (ho : op.op = .store ty x y) (g o : Nat) (v : Value) (hx : a.eval x = .pointer (some ⟨g, o, none⟩)) (hy : a.eval y = v)
  (HO : OwnR w0 l L RD w) {cs ds : List Value} (hi : l[i]? = some (g, cs)) (hs : (P.info? ty).map (·.size) = some 1) (hle : o + 1 ≤ cs.length) (h1 : v.oneCell' = true) (hd : patch cs o [v] = ds)
  (h : ∀ w2, OwnR w0 (l.set i (g, ds)) L RD w2 → wpList P ops Q rest (a.put op.dst undef) w2) : wpList P ops Q (op :: rest) a w :=
 wpList_store_blk1 hgd ty x y ho g o v hx hy cs (HO.own.at i hi) hs hle h1 (fun w2 h2 h3 _ => h w2 (HO.set i hi (hd ▸ h2) h3))
theorem wpList_load_ownR (i : Nat) (hgd : Region.wanted op (yielded ops a.tmps) = true) (ty : TypeId) (x : Operand) (ho : op.op = .load ty x) (g : Nat) (hx : a.eval x = .pointer (some ⟨g, 0, none⟩)) (HO : OwnR w0 l L RD w) {cs : List Value} (hi : l[i]? = some (g, cs)) (d : TypeDesc)
  (hu : P.underlying ty = some d) (hd : d.isRow = true) (hs : (P.info? ty).map (·.size) = some cs.length)
  (h : wpList P ops Q rest (a.put op.dst (.agg cs.toArray)) w) : wpList P ops Q (op :: rest) a w :=
 wpList_load_own i hgd ty x ho g hx HO.own hi d hu hd hs h
theorem wpList_append_ownR {t e : TypeId} {z : Value} {size bytes : Nat} (T : SliceT P t e z size bytes) (hgd : op.guard = .none) (s x : Operand)
  (ho : op.op = .call { callee := .builtin .append, args := #[s, x], argTypes := #[t, t] }) {n : Nat} {v : Value} {xs : List Value} (cs : List Value) (H : OwnR w0 l (L ++ ⟨e, size, v, n, xs⟩ :: M) RD w)
  (hs : a.eval s = v) (hx : a.eval x = .slice (some ⟨w.heap.size, 0, .none⟩) 1 1) (hl : cs.length = size) (h1 : ∀ u ∈ cs, u.oneCell' = true) (hn : (n + 1) * bytes ≤ 140737488355328)
  (h : ∀ v' w', OwnR w0 l (L ++ ⟨e, size, v', n + 1, xs ++ cs⟩ :: M) RD w' → v'.oneCell' = true → wpList P ops Q rest (a.put op.dst v') w') : wpList P ops Q (op :: rest) a (w.alloc (.cells cs.toArray e)) :=
 wpList_append_own1 T hgd s x ho cs hs (H.rows.own ⟨e, size, v, n, xs⟩ (by simp)) hx hl h1 hn H.below.size (fun v' w' q1 q2 q3 q4 => h v' w' (H.push (r := ⟨e, size, v, n, xs⟩) q1 q2 q3) q4)
end
end Go.Proofs.YtpcfdngnmigkfaaGreatDoor
namespace Go.Proofs.YtpcfdngnmigkfaaGreatDoor
open Go.RowKit
def chkN (ops : Array Oper) (n : Nat) : Bool :=
 (List.range n).all (fun i => okTake ops n i (ups ops i)) && (Region.ready .any ops (ups ops n) == [n]) && (Region.ready .any ops (ups ops (n + 1)) == [])
section
variable {P : Program} {id : Nat} {Q : Exit → Act → World → Prop} {a : Act} {w w0 : World} {l : List (Nat × List Value)}
theorem wp_ret6n {o0 o1 o2 o3 o4 o5 : Oper} (hm : P.follows .mixedOrders = true) (hc : chkN #[o0, o1, o2, o3, o4, o5] 5 = true) (hg : [o0.guard, o1.guard, o2.guard, o3.guard, o4.guard, o5.guard] = [none, none, none, none, none, none])
  (hQ0 : ∀ (d : Tmp) (v : Value) c a w, Q (.panic c) (a.put (some d) v) w → Q (.panic c) a w) (HO : Own w0 l w)
  (v0 v2 v3 v4 : Value) (i2 j2 : Nat) {g2 h2 : Nat} {c2 z2 : List Value} (hi2 : l[i2]? = some (g2, c2)) (hj2 : l[j2]? = some (h2, z2))
  {T2 : TypeId} {x0 x1 x2 x3 x4 p y : Operand}
  (k0 : o0.op = .move x0 ∨ o0.op = .assign x0) (e0 : (a).eval x0 = v0)
  (k1 : o1.op = .load T2 x1) (e1 : ((a).put o0.dst v0).eval x1 = .pointer (some ⟨g2, 0, none⟩))
  (k2 : o2.op = .move x2 ∨ o2.op = .assign x2) (e2 : (((a).put o0.dst v0).put o1.dst (.agg c2.toArray)).eval x2 = v2)
  (k3 : o3.op = .move x3 ∨ o3.op = .assign x3) (e3 : ((((a).put o0.dst v0).put o1.dst (.agg c2.toArray)).put o2.dst v2).eval x3 = v3)
  (k4 : o4.op = .move x4 ∨ o4.op = .assign x4) (e4 : (((((a).put o0.dst v0).put o1.dst (.agg c2.toArray)).put o2.dst v2).put o3.dst v3).eval x4 = v4)
  {A : Act} (hA : (((((a).put o0.dst v0).put o1.dst (.agg c2.toArray)).put o2.dst v2).put o3.dst v3).put o4.dst v4 = A) (k5 : o5.op = .store T2 p y) (e5 : A.eval p = .pointer (some ⟨h2, 0, none⟩)) (f5 : A.eval y = .agg c2.toArray)
  {d2 : TypeDesc} (u2 : P.underlying T2 = some d2) (r2 : d2.isRow = true) (s2 : (P.info? T2).map (·.size) = some c2.length) (l2 : z2.length = c2.length) (b2 : ∀ u ∈ c2, u.oneCell' = true)
  (h : ∀ w', Own w0 (l.set j2 (h2, c2)) w' → Q .normal (A.put o5.dst undef) w') : (Code.region id #[o0, o1, o2, o3, o4, o5] true).wp P Q a w := by
 have hQ : ∀ (o : Oper) (v : Value) c a w, Q (.panic c) (a.put o.dst v) w → Q (.panic c) a w := fun o v c a w => by
  cases o.dst with
  | none => exact fun h => h
  | some d => exact hQ0 d v c a w
 simp only [List.cons.injEq, and_true] at hg
 obtain ⟨g0_, g1_, g2_, g3_, g4_, g5_⟩ := hg
 simp only [chkN, Bool.and_eq_true, beq_iff_eq, List.range, List.range.loop, List.all_cons, List.all_nil, and_true] at hc
 obtain ⟨⟨⟨q0, q1, q2, q3, q4⟩, qr⟩, qd⟩ := hc
 simp only [ups] at q0 q1 q2 q3 q4 qr qd
 have hB2 : Blk w.drew g2 c2 := HO.drew.at i2 hi2
 refine wp_region_G 5 (fun _ => True) (fun w' => Blk w' g2 c2) hm trivial hB2 (fun _ => ?_)
 refine wpAnyG_take (i := 0) (oi := o0) (v := v0) rfl q0 (hQ o0 _) (yields_move g0_ k0 e0) (InvG.mk trivial hB2) ?_
 refine wpAnyG_take (i := 1) (oi := o1) (v := .agg c2.toArray) rfl q1 (hQ o1 _) (yieldsIf_load_mid (wanted_plain g1_) T2 _ k1 g2 0 e1 c2 _ (fun w h => h.2.whole) u2 r2 s2) (InvG.mk trivial hB2) ?_
 refine wpAnyG_take (i := 2) (oi := o2) (v := v2) rfl q2 (hQ o2 _) (yields_move g2_ k2 e2) (InvG.mk trivial hB2) ?_
 refine wpAnyG_take (i := 3) (oi := o3) (v := v3) rfl q3 (hQ o3 _) (yields_move g3_ k3 e3) (InvG.mk trivial hB2) ?_
 refine wpAnyG_take (i := 4) (oi := o4) (v := v4) rfl q4 (hQ o4 _) (yields_move g4_ k4 e4) (InvG.mk trivial hB2) ?_
 rw [hA]
 refine wpAnyG_ready (rs := [5]) qr (by simp) ?_
 refine AllReadyG.plain (o := o5) rfl g5_ (fun K hK => ?_) AllReadyG.nil
 refine wp_store_own' j2 T2 _ _ k5 h2 0 (.agg c2.toArray) c2 e5 f5 rfl HO.drew hj2 s2 (by omega) b2 (patch_whole' c2 z2 l2) ?_
 intro w10 HO10
 refine hK.out _ _ (InvG.past trivial (by kernel_rfl)) (fun _ => ?_)
 exact wpAnyG_done qd (h w10 HO10) _
theorem wp_ret8n {o0 o1 o2 o3 o4 o5 o6 o7 : Oper} (hm : P.follows .mixedOrders = true) (hc : chkN #[o0, o1, o2, o3, o4, o5, o6, o7] 7 = true) (hg : [o0.guard, o1.guard, o2.guard, o3.guard, o4.guard, o5.guard, o6.guard, o7.guard] = [none, none, none, none, none, none, none, none])
  (hQ0 : ∀ (d : Tmp) (v : Value) c a w, Q (.panic c) (a.put (some d) v) w → Q (.panic c) a w) {L : List ORow} {RD : Frag → Prop} (HO : OwnR w0 l L RD w)
  (v0 v1 v2 v4 v5 v6 : Value) (i2 j2 : Nat) {g2 h2 : Nat} {c2 z2 : List Value} (hi2 : l[i2]? = some (g2, c2)) (hj2 : l[j2]? = some (h2, z2))
  {T2 : TypeId} {x0 x1 x2 x3 x4 x5 x6 p y : Operand}
  (k0 : o0.op = .move x0 ∨ o0.op = .assign x0) (e0 : (a).eval x0 = v0)
  (k1 : o1.op = .move x1 ∨ o1.op = .assign x1) (e1 : ((a).put o0.dst v0).eval x1 = v1)
  (k2 : o2.op = .move x2 ∨ o2.op = .assign x2) (e2 : (((a).put o0.dst v0).put o1.dst v1).eval x2 = v2)
  (k3 : o3.op = .load T2 x3) (e3 : ((((a).put o0.dst v0).put o1.dst v1).put o2.dst v2).eval x3 = .pointer (some ⟨g2, 0, none⟩))
  (k4 : o4.op = .move x4 ∨ o4.op = .assign x4) (e4 : (((((a).put o0.dst v0).put o1.dst v1).put o2.dst v2).put o3.dst (.agg c2.toArray)).eval x4 = v4)
  (k5 : o5.op = .move x5 ∨ o5.op = .assign x5) (e5 : ((((((a).put o0.dst v0).put o1.dst v1).put o2.dst v2).put o3.dst (.agg c2.toArray)).put o4.dst v4).eval x5 = v5)
  (k6 : o6.op = .move x6 ∨ o6.op = .assign x6) (e6 : (((((((a).put o0.dst v0).put o1.dst v1).put o2.dst v2).put o3.dst (.agg c2.toArray)).put o4.dst v4).put o5.dst v5).eval x6 = v6)
  {A : Act} (hA : (((((((a).put o0.dst v0).put o1.dst v1).put o2.dst v2).put o3.dst (.agg c2.toArray)).put o4.dst v4).put o5.dst v5).put o6.dst v6 = A) (k7 : o7.op = .store T2 p y) (e7 : A.eval p = .pointer (some ⟨h2, 0, none⟩)) (f7 : A.eval y = .agg c2.toArray)
  {d2 : TypeDesc} (u2 : P.underlying T2 = some d2) (r2 : d2.isRow = true) (s2 : (P.info? T2).map (·.size) = some c2.length) (l2 : z2.length = c2.length) (b2 : ∀ u ∈ c2, u.oneCell' = true)
  (h : ∀ w', OwnR w0 (l.set j2 (h2, c2)) L RD w' → Q .normal (A.put o7.dst undef) w') : (Code.region id #[o0, o1, o2, o3, o4, o5, o6, o7] true).wp P Q a w := by
 have hQ : ∀ (o : Oper) (v : Value) c a w, Q (.panic c) (a.put o.dst v) w → Q (.panic c) a w := fun o v c a w => by
  cases o.dst with
  | none => exact fun h => h
  | some d => exact hQ0 d v c a w
 simp only [List.cons.injEq, and_true] at hg
 obtain ⟨g0_, g1_, g2_, g3_, g4_, g5_, g6_, g7_⟩ := hg
 simp only [chkN, Bool.and_eq_true, beq_iff_eq, List.range, List.range.loop, List.all_cons, List.all_nil, and_true] at hc
 obtain ⟨⟨⟨q0, q1, q2, q3, q4, q5, q6⟩, qr⟩, qd⟩ := hc
 simp only [ups] at q0 q1 q2 q3 q4 q5 q6 qr qd
 have hB2 : Blk w.drew g2 c2 := HO.drew.own.at i2 hi2
 refine wp_region_G 7 (fun _ => True) (fun w' => Blk w' g2 c2) hm trivial hB2 (fun _ => ?_)
 refine wpAnyG_take (i := 0) (oi := o0) (v := v0) rfl q0 (hQ o0 _) (yields_move g0_ k0 e0) (InvG.mk trivial hB2) ?_
 refine wpAnyG_take (i := 1) (oi := o1) (v := v1) rfl q1 (hQ o1 _) (yields_move g1_ k1 e1) (InvG.mk trivial hB2) ?_
 refine wpAnyG_take (i := 2) (oi := o2) (v := v2) rfl q2 (hQ o2 _) (yields_move g2_ k2 e2) (InvG.mk trivial hB2) ?_
 refine wpAnyG_take (i := 3) (oi := o3) (v := .agg c2.toArray) rfl q3 (hQ o3 _) (yieldsIf_load_mid (wanted_plain g3_) T2 _ k3 g2 0 e3 c2 _ (fun w h => h.2.whole) u2 r2 s2) (InvG.mk trivial hB2) ?_
 refine wpAnyG_take (i := 4) (oi := o4) (v := v4) rfl q4 (hQ o4 _) (yields_move g4_ k4 e4) (InvG.mk trivial hB2) ?_
 refine wpAnyG_take (i := 5) (oi := o5) (v := v5) rfl q5 (hQ o5 _) (yields_move g5_ k5 e5) (InvG.mk trivial hB2) ?_
 refine wpAnyG_take (i := 6) (oi := o6) (v := v6) rfl q6 (hQ o6 _) (yields_move g6_ k6 e6) (InvG.mk trivial hB2) ?_
 rw [hA]
 refine wpAnyG_ready (rs := [7]) qr (by simp) ?_
 refine AllReadyG.plain (o := o7) rfl g7_ (fun K hK => ?_) AllReadyG.nil
 have hBj : Blk w.drew h2 z2 := HO.drew.own.at j2 hj2
 have hds : Blk (w.drew.setRow h2 (patch z2 0 c2).toArray) h2 (patch z2 0 c2) := hBj.set _
 rw [patch_whole' c2 z2 l2] at hds
 refine wp_store_blk T2 _ _ k7 h2 0 (.agg c2.toArray) c2 z2 e7 f7 rfl hBj s2 (by omega) b2 ?_
 have HO10 := HO.drew.set j2 hj2 hds (setRow_grown _)
 rw [patch_whole' c2 z2 l2]
 refine hK.out _ _ (InvG.past trivial (by kernel_rfl)) (fun _ => ?_)
 exact wpAnyG_done qd (h _ HO10) _
end
section
variable {P : Program} {fn : Func} {tmps : Array Value} {w : World} {q u v x : Tmp} {T2 : TypeId} {g2 : Nat} {c2 : List Value} {y1 y2 y3 : Value}
theorem results_tttc (h : fn.results = #[.tmp u, .tmp v, .tmp x, .cell q T2]) (h1 : tmps.getD u undef = y1) (h2 : tmps.getD v undef = y2) (h3 : tmps.getD x undef = y3) (h4 : tmps.getD q undef = .pointer (some ⟨g2, 0, none⟩)) (r2 : (loadVar T2 ⟨g2, 0, none⟩).run P w = .ok (.agg c2.toArray) w) : (results fn tmps).run P w = .ok (.tuple #[y1, y2, y3, .agg c2.toArray]) w := by
 have a1 : tmps[u]?.getD undef = y1 := by simpa using h1
 have a2 : tmps[v]?.getD undef = y2 := by simpa using h2
 have a3 : tmps[x]?.getD undef = y3 := by simpa using h3
 have a4 : tmps[q]?.getD undef = .pointer (some ⟨g2, 0, none⟩) := by simpa using h4
 simp [results, h, a1, a2, a3, a4, asAddr, r2, Sem.run_bind, Result.andThen]
end
end Go.Proofs.YtpcfdngnmigkfaaGreatDoor
namespace Go.Proofs.YtpcfdngnmigkfaaGreatDoor
open Go.RowKit
def chk4 (ops : Array Oper) : Bool :=
 okTake ops 3 0 (ups ops 0) && okTake ops 3 1 (ups ops 1) && (Region.ready .any ops (ups ops 2) == [2]) && (Region.ready .any ops (ups ops 3) == [3]) && (Region.ready .any ops (ups ops 4) == [])
def chk5 (ops : Array Oper) : Bool :=
 okTake ops 4 0 (ups ops 0) && okTake ops 4 1 (ups ops 1) && (Region.ready .any ops (ups ops 2) == [2]) && (Region.ready .any ops (ups ops 3) == [3]) && (Region.ready .any ops (ups ops 4) == [4]) && (Region.ready .any ops (ups ops 5) == [])
section
variable {P : Program} {id : Nat} {Q : Exit → Act → World → Prop} {a : Act} {w w0 : World} {l : List (Nat × List Value)}
theorem wp_ret4 {o0 o1 o2 o3 : Oper} (hm : P.follows .mixedOrders = true) (hc : chk4 #[o0, o1, o2, o3] = true) (hg : [o0.guard, o1.guard, o2.guard, o3.guard] = [none, none, none, none])
  (hQ0 : ∀ (d : Tmp) (v : Value) c a w, Q (.panic c) (a.put (some d) v) w → Q (.panic c) a w) (HO : Own w0 l w)
  (i1 i2 j1 j2 : Nat) {g1 g2 h1 h2 : Nat} {c1 c2 z1 z2 : List Value} (hi1 : l[i1]? = some (g1, c1)) (hi2 : l[i2]? = some (g2, c2)) (hj1 : l[j1]? = some (h1, z1)) (hj2 : l[j2]? = some (h2, z2)) (n1 : j1 ≠ i1) (n2 : j1 ≠ i2) (n3 : j1 ≠ j2)
  {T1 T2 : TypeId} {x0 x1 p2 y2 p3 y3 : Operand} (k0 : o0.op = .load T1 x0) (e0 : a.eval x0 = .pointer (some ⟨g1, 0, none⟩))
  (k1 : o1.op = .load T2 x1) (e1 : (a.put o0.dst (.agg c1.toArray)).eval x1 = .pointer (some ⟨g2, 0, none⟩))
  {A2 : Act} (hA2 : (a.put o0.dst (.agg c1.toArray)).put o1.dst (.agg c2.toArray) = A2)
  (k2 : o2.op = .store T1 p2 y2) (e2 : A2.eval p2 = .pointer (some ⟨h1, 0, none⟩)) (f2 : A2.eval y2 = .agg c1.toArray)
  {A3 : Act} (hA3 : A2.put o2.dst undef = A3) (k3 : o3.op = .store T2 p3 y3) (e3 : A3.eval p3 = .pointer (some ⟨h2, 0, none⟩)) (f3 : A3.eval y3 = .agg c2.toArray)
  {d1 : TypeDesc} (u1 : P.underlying T1 = some d1) (r1 : d1.isRow = true) (s1 : (P.info? T1).map (·.size) = some c1.length) (l1 : z1.length = c1.length) (b1 : ∀ u ∈ c1, u.oneCell' = true)
  {d2 : TypeDesc} (u2 : P.underlying T2 = some d2) (r2 : d2.isRow = true) (s2 : (P.info? T2).map (·.size) = some c2.length) (l2 : z2.length = c2.length) (b2 : ∀ u ∈ c2, u.oneCell' = true)
  (h : ∀ w', Own w0 ((l.set j1 (h1, c1)).set j2 (h2, c2)) w' → Q .normal (A3.put o3.dst undef) w') : (Code.region id #[o0, o1, o2, o3] true).wp P Q a w := by
 have hQ : ∀ (o : Oper) (v : Value) c a w, Q (.panic c) (a.put o.dst v) w → Q (.panic c) a w := fun o v c a w => by
  cases o.dst with
  | none => exact fun h => h
  | some d => exact hQ0 d v c a w
 simp only [List.cons.injEq, and_true] at hg
 obtain ⟨g0, g1', g2', g3'⟩ := hg
 simp only [chk4, Bool.and_eq_true, beq_iff_eq] at hc
 obtain ⟨⟨⟨⟨q0, q1⟩, q2⟩, q3⟩, q4⟩ := hc
 simp only [ups] at q0 q1 q2 q3 q4
 have hB1 : Blk w.drew g1 c1 := HO.drew.at i1 hi1
 have hB2 : Blk w.drew g2 c2 := HO.drew.at i2 hi2
 refine wp_region_G 3 (fun _ => True) (fun w' => Blk w' g1 c1 ∧ Blk w' g2 c2) hm trivial ⟨hB1, hB2⟩ (fun _ => ?_)
 refine wpAnyG_take (i := 0) (oi := o0) (v := .agg c1.toArray) rfl q0 (hQ o0 _) (yieldsIf_load_mid (wanted_plain g0) T1 _ k0 g1 0 e0 c1 _ (fun w h => h.2.1.whole) u1 r1 s1) (InvG.mk trivial ⟨hB1, hB2⟩) ?_
 refine wpAnyG_take (i := 1) (oi := o1) (v := .agg c2.toArray) rfl q1 (hQ o1 _) (yieldsIf_load_mid (wanted_plain g1') T2 _ k1 g2 0 e1 c2 _ (fun w h => h.2.2.whole) u2 r2 s2) (InvG.mk trivial ⟨hB1, hB2⟩) ?_
 rw [hA2]
 refine wpAnyG_ready (rs := [2]) q2 (by simp) ?_
 refine AllReadyG.plain (o := o2) rfl g2' (fun K hK => ?_) AllReadyG.nil
 refine wp_store_own' j1 T1 _ _ k2 h1 0 (.agg c1.toArray) c1 e2 f2 rfl HO.drew hj1 s1 (by omega) b1 (patch_whole' c1 z1 l1) ?_
 intro w9 HO9
 have n3' : (l.set j1 (h1, c1))[j2]? = some (h2, z2) := by rw [List.getElem?_set_ne n3]; exact hj2
 have hB1' : Blk w9 g1 c1 := HO9.at i1 (by rw [List.getElem?_set_ne n1]; exact hi1)
 have hB2' : Blk w9 g2 c2 := HO9.at i2 (by rw [List.getElem?_set_ne n2]; exact hi2)
 refine hK.out _ _ (InvG.mk trivial ⟨hB1', hB2'⟩) (fun _ => ?_)
 clear hK
 rw [hA3]
 refine wpAnyG_ready (rs := [3]) q3 (by simp) ?_
 refine AllReadyG.plain (o := o3) rfl g3' (fun K hK => ?_) AllReadyG.nil
 refine wp_store_own' j2 T2 _ _ k3 h2 0 (.agg c2.toArray) c2 e3 f3 rfl HO9 n3' s2 (by omega) b2 (patch_whole' c2 z2 l2) ?_
 intro w10 HO10
 refine hK.out _ _ (InvG.past trivial (by kernel_rfl)) (fun _ => ?_)
 exact wpAnyG_done q4 (h w10 HO10) _
theorem wp_ret5 {o0 o1 o2 o3 o4 : Oper} (hm : P.follows .mixedOrders = true) (hc : chk5 #[o0, o1, o2, o3, o4] = true) (hg : [o0.guard, o1.guard, o2.guard, o3.guard, o4.guard] = [none, none, none, none, none])
  (hQ0 : ∀ (d : Tmp) (v : Value) c a w, Q (.panic c) (a.put (some d) v) w → Q (.panic c) a w) (HO : Own w0 l w)
  (v2 : Value) (i1 j1 j2 : Nat) {g1 h1 h2 : Nat} {c1 c2 z1 z2 : List Value} (hi1 : l[i1]? = some (g1, c1)) (hj1 : l[j1]? = some (h1, z1)) (hj2 : l[j2]? = some (h2, z2)) (n1 : j1 ≠ i1) (n3 : j1 ≠ j2)
  {T1 T2 : TypeId} {x0 x1 p3 y3 p4 y4 : Operand} (k0 : o0.op = .load T1 x0) (e0 : a.eval x0 = .pointer (some ⟨g1, 0, none⟩))
  (k1 : o1.op = .move x1 ∨ o1.op = .assign x1) (e1 : (a.put o0.dst (.agg c1.toArray)).eval x1 = v2)
  {A2 : Act} (hA2 : (a.put o0.dst (.agg c1.toArray)).put o1.dst v2 = A2) {f : FuncId} (k2 : ∀ w, (execOp A2.eval o2).run P w = .ok (.enter f #[v2]) w)
  (hcall : ∀ w', Calls P f #[v2] w' fun e w'' => e = .returned (.agg c2.toArray) ∧ Below w'.heap.size w' w'')
  {A3 : Act} (hA3 : A2.put o2.dst (.agg c2.toArray) = A3) (k3 : o3.op = .store T1 p3 y3) (e3 : A3.eval p3 = .pointer (some ⟨h1, 0, none⟩)) (f3 : A3.eval y3 = .agg c1.toArray)
  {A4 : Act} (hA4 : A3.put o3.dst undef = A4) (k4 : o4.op = .store T2 p4 y4) (e4 : A4.eval p4 = .pointer (some ⟨h2, 0, none⟩)) (f4 : A4.eval y4 = .agg c2.toArray)
  {d1 : TypeDesc} (u1 : P.underlying T1 = some d1) (r1 : d1.isRow = true) (s1 : (P.info? T1).map (·.size) = some c1.length) (l1 : z1.length = c1.length) (b1 : ∀ u ∈ c1, u.oneCell' = true)
  (s2 : (P.info? T2).map (·.size) = some c2.length) (l2 : z2.length = c2.length) (b2 : ∀ u ∈ c2, u.oneCell' = true)
  (h : ∀ w', Own w0 ((l.set j1 (h1, c1)).set j2 (h2, c2)) w' → Q .normal (A4.put o4.dst undef) w') : (Code.region id #[o0, o1, o2, o3, o4] true).wp P Q a w := by
 have hQ : ∀ (o : Oper) (v : Value) c a w, Q (.panic c) (a.put o.dst v) w → Q (.panic c) a w := fun o v c a w => by
  cases o.dst with
  | none => exact fun h => h
  | some d => exact hQ0 d v c a w
 simp only [List.cons.injEq, and_true] at hg
 obtain ⟨g0, g1', g2', g3', g4'⟩ := hg
 simp only [chk5, Bool.and_eq_true, beq_iff_eq] at hc
 obtain ⟨⟨⟨⟨⟨q0, q1⟩, q2⟩, q3⟩, q4⟩, q5⟩ := hc
 simp only [ups] at q0 q1 q2 q3 q4 q5
 have hB1 : Blk w.drew g1 c1 := HO.drew.at i1 hi1
 refine wp_region_G 4 (fun _ => True) (fun w' => Blk w' g1 c1) hm trivial hB1 (fun _ => ?_)
 refine wpAnyG_take (i := 0) (oi := o0) (v := .agg c1.toArray) rfl q0 (hQ o0 _) (yieldsIf_load_mid (wanted_plain g0) T1 _ k0 g1 0 e0 c1 _ (fun w h => h.2.whole) u1 r1 s1) (InvG.mk trivial hB1) ?_
 refine wpAnyG_take (i := 1) (oi := o1) (v := v2) rfl q1 (hQ o1 _) (yields_move g1' k1 e1) (InvG.mk trivial hB1) ?_
 rw [hA2]
 refine wpAnyG_ready (rs := [2]) q2 (by simp) ?_
 refine AllReadyG.plain (o := o2) rfl g2' (fun K hK => ?_) AllReadyG.nil
 unfold Oper.wp
 rw [k2, Oper.upon_enter]
 refine (hcall _).mono ?_
 rintro e w9 ⟨rfl, hb⟩
 have HO9 := HO.drew.call hb
 have hB9 : Blk w9 g1 c1 := HO9.at i1 hi1
 refine hK.out _ _ (InvG.mk trivial hB9) (fun _ => ?_)
 clear hK
 rw [hA3]
 refine wpAnyG_ready (rs := [3]) q3 (by simp) ?_
 refine AllReadyG.plain (o := o3) rfl g3' (fun K hK => ?_) AllReadyG.nil
 refine wp_store_own' j1 T1 _ _ k3 h1 0 (.agg c1.toArray) c1 e3 f3 rfl HO9 hj1 s1 (by omega) b1 (patch_whole' c1 z1 l1) ?_
 intro w10 HO10
 have n3' : (l.set j1 (h1, c1))[j2]? = some (h2, z2) := by rw [List.getElem?_set_ne n3]; exact hj2
 have hB10 : Blk w10 g1 c1 := HO10.at i1 (by rw [List.getElem?_set_ne n1]; exact hi1)
 refine hK.out _ _ (InvG.mk trivial hB10) (fun _ => ?_)
 clear hK
 rw [hA4]
 refine wpAnyG_ready (rs := [4]) q4 (by simp) ?_
 refine AllReadyG.plain (o := o4) rfl g4' (fun K hK => ?_) AllReadyG.nil
 refine wp_store_own' j2 T2 _ _ k4 h2 0 (.agg c2.toArray) c2 e4 f4 rfl HO10 n3' s2 (by omega) b2 (patch_whole' c2 z2 l2) ?_
 intro w11 HO11
 refine hK.out _ _ (InvG.past trivial (by kernel_rfl)) (fun _ => ?_)
 exact wpAnyG_done q5 (h w11 HO11) _
theorem wp_ret6b {o0 o1 o2 o3 o4 o5 : Oper} (hm : P.follows .mixedOrders = true) (hc : chk6 #[o0, o1, o2, o3, o4, o5] = true) (hg : [o0.guard, o1.guard, o2.guard, o3.guard, o4.guard, o5.guard] = [none, none, none, none, none, none])
  (hQ0 : ∀ (d : Tmp) (v : Value) c a w, Q (.panic c) (a.put (some d) v) w → Q (.panic c) a w) (HO : Own w0 l w)
  (v : Value) (c1 : List Value) (i2 j1 j2 : Nat) {g2 h1 h2 : Nat} {c2 z1 z2 : List Value} (hi2 : l[i2]? = some (g2, c2)) (hj1 : l[j1]? = some (h1, z1)) (hj2 : l[j2]? = some (h2, z2)) (n2 : j1 ≠ i2) (n3 : j1 ≠ j2)
  {T1 T2 : TypeId} {x1 x2 p3 y3 x4 p5 y5 : Operand} (y0 : ∀ w, (execOp a.eval o0).run P w = .ok (.value (.agg c1.toArray)) w)
  (k1 : o1.op = .move x1 ∨ o1.op = .assign x1) (e1 : (a.put o0.dst (.agg c1.toArray)).eval x1 = v)
  (k2 : o2.op = .load T2 x2) (e2 : ((a.put o0.dst (.agg c1.toArray)).put o1.dst v).eval x2 = .pointer (some ⟨g2, 0, none⟩))
  {A3 : Act} (hA3 : ((a.put o0.dst (.agg c1.toArray)).put o1.dst v).put o2.dst (.agg c2.toArray) = A3)
  (k3 : o3.op = .store T1 p3 y3) (e3 : A3.eval p3 = .pointer (some ⟨h1, 0, none⟩)) (f3 : A3.eval y3 = .agg c1.toArray)
  (k4 : o4.op = .move x4 ∨ o4.op = .assign x4) (e4 : (A3.put o3.dst undef).eval x4 = v)
  {A5 : Act} (hA5 : (A3.put o3.dst undef).put o4.dst v = A5)
  (k5 : o5.op = .store T2 p5 y5) (e5 : A5.eval p5 = .pointer (some ⟨h2, 0, none⟩)) (f5 : A5.eval y5 = .agg c2.toArray)
  {d2 : TypeDesc} (s1 : (P.info? T1).map (·.size) = some c1.length) (l1 : z1.length = c1.length) (b1 : ∀ u ∈ c1, u.oneCell' = true)
  (u2 : P.underlying T2 = some d2) (r2 : d2.isRow = true) (s2 : (P.info? T2).map (·.size) = some c2.length) (l2 : z2.length = c2.length) (b2 : ∀ u ∈ c2, u.oneCell' = true)
  (h : ∀ w', Own w0 ((l.set j1 (h1, c1)).set j2 (h2, c2)) w' → Q .normal (A5.put o5.dst undef) w') : (Code.region id #[o0, o1, o2, o3, o4, o5] true).wp P Q a w := by
 have hQ : ∀ (o : Oper) (v : Value) c a w, Q (.panic c) (a.put o.dst v) w → Q (.panic c) a w := fun o v c a w => by
  cases o.dst with
  | none => exact fun h => h
  | some d => exact hQ0 d v c a w
 simp only [List.cons.injEq, and_true] at hg
 obtain ⟨g0, g1', g2', g3', g4', g5'⟩ := hg
 simp only [chk6, Bool.and_eq_true, beq_iff_eq] at hc
 obtain ⟨⟨⟨⟨⟨⟨q0, q1⟩, q2⟩, q3⟩, q4⟩, q5⟩, q6⟩ := hc
 simp only [ups] at q0 q1 q2 q3 q4 q5 q6
 have hB2 : Blk w.drew g2 c2 := HO.drew.at i2 hi2
 refine wp_region_G 5 (fun _ => True) (fun w' => Blk w' g2 c2) hm trivial hB2 (fun _ => ?_)
 refine wpAnyG_take (i := 0) (oi := o0) (v := .agg c1.toArray) rfl q0 (hQ o0 _) (.inl ⟨wanted_plain g0, fun w _ => y0 w⟩) (InvG.mk trivial hB2) ?_
 refine wpAnyG_take (i := 1) (oi := o1) (v := v) rfl q1 (hQ o1 _) (yields_move g1' k1 e1) (InvG.mk trivial hB2) ?_
 refine wpAnyG_take (i := 2) (oi := o2) (v := .agg c2.toArray) rfl q2 (hQ o2 _) (yieldsIf_load_mid (wanted_plain g2') T2 _ k2 g2 0 e2 c2 _ (fun w h => h.2.whole) u2 r2 s2) (InvG.mk trivial hB2) ?_
 refine wpAnyG_ready (rs := [3]) q3 (by simp) ?_
 refine AllReadyG.plain (o := o3) rfl g3' (fun K hK => ?_) AllReadyG.nil
 rw [hA3]
 refine wp_store_own' j1 T1 _ _ k3 h1 0 (.agg c1.toArray) c1 e3 f3 rfl HO.drew hj1 s1 (by omega) b1 (patch_whole' c1 z1 l1) ?_
 intro w9 HO9
 have n3' : (l.set j1 (h1, c1))[j2]? = some (h2, z2) := by rw [List.getElem?_set_ne n3]; exact hj2
 have hB2' : Blk w9 g2 c2 := HO9.at i2 (by rw [List.getElem?_set_ne n2]; exact hi2)
 refine hK.out _ _ (InvG.mk trivial hB2') (fun _ => ?_)
 clear hK
 refine wpAnyG_take (i := 4) (oi := o4) (v := v) rfl q4 (hQ o4 _) (yields_move g4' k4 e4) (InvG.mk trivial hB2') ?_
 refine wpAnyG_ready (rs := [5]) q5 (by simp) ?_
 refine AllReadyG.plain (o := o5) rfl g5' (fun K hK => ?_) AllReadyG.nil
 rw [hA5]
 refine wp_store_own' j2 T2 _ _ k5 h2 0 (.agg c2.toArray) c2 e5 f5 rfl HO9 n3' s2 (by omega) b2 (patch_whole' c2 z2 l2) ?_
 intro w10 HO10
 refine hK.out _ _ (InvG.past trivial (by kernel_rfl)) (fun _ => ?_)
 exact wpAnyG_done q6 (h w10 HO10) _
end
end Go.Proofs.YtpcfdngnmigkfaaGreatDoor
