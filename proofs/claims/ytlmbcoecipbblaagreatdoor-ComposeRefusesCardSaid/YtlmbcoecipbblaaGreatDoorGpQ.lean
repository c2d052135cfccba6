/- errors.Is by its contracts, for errors of errors.New's make (after the kit's. -/
import Derived.Test.YtlmbcoecipbblaaGreatDoorGpA
import Derived.LaidEql
import Derived.Stop.Asserts
import Derived.RowKitTokens
import Derived.Test.YtlmbcoecipbblaaGreatDoorTie
import Derived.ProofKit
import Derived.LaidMore
import Derived.OpenShut
import Derived.Stop.Joined
set_option maxRecDepth 100000
set_option maxHeartbeats 2000000
set_option linter.unusedVariables false
set_option linter.unusedSimpArgs false
namespace Go.Proofs.YtlmbcoecipbblaaGreatDoor
open Go.RowKit Go.Extern.Stop Go.Stop Go.Extern
theorem isTypeOf (v : Value) (w : World) : (Extern.ReflectliteType.typeOf #[.iface 183 v]).run Tryz.prog w = .ok (.iface 127 (.agg #[.pointer (some ⟨19, 183, none⟩)])) w := by kernel_rfl
theorem isComparable (w : World) : ((Extern.ReflectliteType.method fun t => do Extern.Rtype.noPackHeld "Comparable" t; (fun a => Value.bool a.comparable) <$> typeInfo t) #[.agg #[.pointer (some ⟨19, 183, none⟩)]]).run Tryz.prog w = .ok (.bool true) w := by kernel_rfl
theorem isMethodComparable (v : Value) (w : World) : (Go.method 320 127 v "Comparable").run Tryz.prog w = .ok (141, v) w := by kernel_rfl
theorem isComp : (Tryz.prog.info? 183).map (·.comparable) = some true := by kernel_rfl
theorem isSize : (Tryz.prog.info? 208).map (·.size) = some 1 := by kernel_rfl
theorem noIsE (v : Value) (xT : TypeId) (w : World) : (Instr.typeAssert (.iface 183 v) xT 129 true).run Tryz.prog w = .ok (.tuple #[.nilIface, .bool false]) w := run_typeAssert_lacksB Tryz.underlying129 (by kernel_rfl) (by kernel_rfl) v xT w
theorem noUnwrapE (v : Value) (xT : TypeId) (w : World) : (Instr.typeAssert (.iface 183 v) xT 132 true).run Tryz.prog w = .ok (.tuple #[.nilIface, .bool false]) w := run_typeAssert_lacksB Tryz.underlying132 (by kernel_rfl) (by kernel_rfl) v xT w
theorem noUnwrapsE (v : Value) (xT : TypeId) (w : World) : (Instr.typeAssert (.iface 183 v) xT 134 true).run Tryz.prog w = .ok (.tuple #[.nilIface, .bool false]) w := run_typeAssert_lacksB Tryz.underlying134 (by kernel_rfl) (by kernel_rfl) v xT w
theorem is_same (a : Addr) (w : World) :
  Calls Tryz.prog 19 #[.iface 183 (.pointer (some a)), .iface 183 (.pointer (some a))] w fun e w' => e = .returned (.bool true) ∧ w' = w := by
 obtain ⟨i, hi, hcmp⟩ := Option.map_eq_some_iff.1 isComp
 obtain ⟨j, hj, hjs⟩ := Option.map_eq_some_iff.1 isSize
 have h8 := @run_callFunc_extern Tryz.prog 39 _ Extern.ReflectliteType.typeOf Tryz.func39 (by kernel_rfl) (by kernel_rfl) (by kernel_rfl) (by kernel_rfl)
 have h32 := @run_callFunc_extern Tryz.prog 141 _ (Extern.ReflectliteType.method fun t => do Extern.Rtype.noPackHeld "Comparable" t; pure (.bool (← typeInfo t).comparable)) Tryz.func141 (by kernel_rfl) (by kernel_rfl) (by kernel_rfl) (by kernel_rfl)
 have tT := isTypeOf
 have cT := isComparable
 have mR := isMethodComparable
 have heq := run_eql_iface_ptr_same (P := Tryz.prog) w a Tryz.underlying47 Tryz.underlying183 hi hcmp hj
 go_enter Tryz.func19, Tryz.ntmps19
 go_wp2
 refine wp_loop_rounds 1 ?_
 rw [rounds_succ]
 go_wp2
 go_ret
 exact ⟨rfl, rfl⟩
theorem is_other (a b : Addr) (ca cb : Array Value) (ta tb : TypeId) (w : World) (hne : a ≠ b) (ha : w.heap[a.block]? = some (.cells ca ta (0, 0))) (hb : w.heap[b.block]? = some (.cells cb tb (0, 0))) :
  Calls Tryz.prog 19 #[.iface 183 (.pointer (some a)), .iface 183 (.pointer (some b))] w fun e w' => e = .returned (.bool false) ∧ w' = w := by
 obtain ⟨i, hi, hcmp⟩ := Option.map_eq_some_iff.1 isComp
 obtain ⟨j, hj, hjs⟩ := Option.map_eq_some_iff.1 isSize
 have h8 := @run_callFunc_extern Tryz.prog 39 _ Extern.ReflectliteType.typeOf Tryz.func39 (by kernel_rfl) (by kernel_rfl) (by kernel_rfl) (by kernel_rfl)
 have h32 := @run_callFunc_extern Tryz.prog 141 _ (Extern.ReflectliteType.method fun t => do Extern.Rtype.noPackHeld "Comparable" t; pure (.bool (← typeInfo t).comparable)) Tryz.func141 (by kernel_rfl) (by kernel_rfl) (by kernel_rfl) (by kernel_rfl)
 have tT := isTypeOf
 have cT := isComparable
 have mR := isMethodComparable
 have nE := noIsE
 have uE := noUnwrapE
 have vE := noUnwrapsE
 have heq := run_eql_iface_ptr_other (P := Tryz.prog) w Tryz.underlying47 Tryz.underlying183 hi hcmp hj (by rw [hjs]; decide) hne ha hb
 go_enter Tryz.func19, Tryz.ntmps19
 go_wp2
 refine wp_loop_rounds 1 ?_
 rw [rounds_succ]
 go_wp2
 go_ret
 exact ⟨rfl, rfl⟩
open Go.ChangeShapes Go.WideShapes Go.ChangeAt Go.RowKit
theorem sent_list {P : Program} {W : World} {nm : String} {ti tp te ts : TypeId} {ms : Array (String × TypeId)} {f : Field} (hi : P.underlying ti = some (.interface ms)) (hrow : ∀ u, P.typeName? 3 u = some nm → u = tp)
  (hp : P.underlying tp = some (.pointer te)) (he : P.underlying te = some (.struct #[f])) (hft : f.type = ts) (hfo : f.offset = 0) (hs : P.underlying ts = some .string) (hc : P.cellsOf te = 1) (hcs : P.cellsOf ts = 1) :
  ∀ (l : List (String × List UInt8)) (ps : List MemPlace), DataW.LaidVars P W (l.map fun x => (x.1, (.iface nm (.ptr (.agg [.lit (.string x.2)])) : DataW Unit))) ps →
   (∀ x ∈ l, ∃ g, P.globalNamed x.1 = some g ∧ (P.globals[g]?).map (·.type) = some ti) →
   (∀ b off, MemPlace.cell b off ∈ ps → (∃ c t, W.heap[b]? = some (.cells c t (0, 0))) ∧ ∀ u v, W.cell? ⟨b, off, none⟩ = some (.iface u v) → Value.okWide P W .any 0 u v) → ps.Nodup →
   ∃ As : List Addr, As.length = l.length ∧ (∀ (i : Nat) (h : i < l.length) (h2 : i < As.length) g, P.globalNamed l[i].1 = some g → W.cell? ⟨g, 0, none⟩ = some (.iface tp (.pointer (some As[i])))) ∧
    (∀ a ∈ As, (∃ c t, W.heap[a.block]? = some (.cells c t (0, 0))) ∧ MemPlace.cell a.block a.off ∈ ps) ∧ As.Nodup
 | [], ps, h, _, _, _ => ⟨[], rfl, fun i h => absurd h (by simp), fun a h => (by cases h), List.nodup_nil⟩
 | (n, tx) :: r, ps, h, hall, hrows, hnd => by
  obtain ⟨g, t, cs, fu, p, q, hg, ht, hv, hd, hrest, rfl⟩ := h
  obtain ⟨g', hg', ht'⟩ := hall (n, tx) (by simp)
  obtain rfl := Option.some.inj (hg'.symm.trans hg)
  obtain rfl := Option.some.inj (ht'.symm.trans ht)
  obtain ⟨l0⟩ := cs
  have hsz : 0 < l0.length := by
   obtain ⟨_, u, v, e, _⟩ := iface_of_trod hi hd
   have e : l0 = _ := e
   rw [e]; simp
  have ok0 : ∀ u v, l0 = [.iface u v] → Value.okWide P W .any 0 u v := fun u v e => by
   subst e
   exact (hrows g' 0 (by simp [MemPlace.row])).2 u v (by simpa using World.var?_cell hg hv 0)
  obtain ⟨a, s, e0, hca, hst, hzs, rfl⟩ := errorString_of_trod hi hrow hp he hft hfo hs hc hcs hd ok0
  have e0 : l0 = _ := e0
  subst e0
  rw [List.nodup_append] at hnd
  obtain ⟨hnd1, hnd2, hnd3⟩ := hnd
  obtain ⟨As, hl, hA, hB, hN⟩ := sent_list hi hrow hp he hft hfo hs hc hcs r q hrest (fun x hx => hall x (by simp [hx])) (fun b off hm => hrows b off (List.mem_append_right _ hm)) hnd2
  have hmem : MemPlace.cell a.block a.off ∈ MemPlace.row ⟨g', 0, none⟩ 1 ++ MemPlace.row a 1 := List.mem_append_right _ (by simp [MemPlace.row])
  refine ⟨a :: As, by simp [hl], fun i h h2 gg hgg => ?_, fun b hb => ?_, ?_⟩
  ·cases i with
   | zero =>
    simp only [List.getElem_cons_zero] at hgg ⊢
    obtain rfl := Option.some.inj (hgg.symm.trans hg)
    simpa using World.var?_cell hg hv 0
   | succ i =>
    simp only [List.getElem_cons_succ] at hgg ⊢
    exact hA i (by simpa using h) (by simpa using h2) gg hgg
  ·rcases List.mem_cons.1 hb with rfl | hb
   ·exact ⟨(hrows _ _ (List.mem_append_left _ hmem)).1, List.mem_append_left _ hmem⟩
   ·exact ⟨(hB b hb).1, List.mem_append_right _ (hB b hb).2⟩
  ·refine List.nodup_cons.2 ⟨fun hm => ?_, hN⟩
   exact hnd3 _ hmem _ (hB a hm).2 rfl
theorem starE : "*" ++ "errors.errorString" = "*errors.errorString" := by decide
theorem rowE (u : TypeId) (h : Tryz.prog.typeName? 3 u = some "*errors.errorString") : u = 183 :=
 typeName_ptr_named (nm := "errors.errorString") (by rw [starE]; kernel_rfl) (by kernel_rfl) (by decide) u (by rw [starE]; exact h)
def gOf (i : Nat) : Nat := [3, 4, 2, 5, 6, 7, 8, 9, 0, 10, 11, 1, 12, 13, 14, 15, 16, 17, 18].getD i 0
def errTexts : List (String × List UInt8) := [("redline/api.ErrRange", [97, 32, 110, 117, 109, 98, 101, 114, 32, 105, 115, 32, 111, 117, 116, 32, 111, 102, 32, 105, 116, 115, 32, 114, 97, 110, 103, 101]), ("redline/api.ErrShort", [115, 111, 109, 101, 116, 104, 105, 110, 103, 32, 105, 115, 32, 109, 105, 115, 115, 105, 110, 103, 32, 97, 116, 32, 116, 104, 101, 32, 101, 110, 100]), ("redline/api.ErrLong", [116, 104, 101, 114, 101, 32, 105, 115, 32, 109, 111, 114, 101, 32, 116, 104, 97, 110, 32, 109, 97, 121, 32, 98, 101]), ("redline/api.ErrVarint", [105, 116, 32, 105, 115, 32, 110, 111, 32, 118, 97, 114, 105, 110, 116]), ("redline/api.ErrTag", [105, 116, 32, 105, 115, 32, 110, 111, 32, 116, 97, 103]), ("redline/api.ErrGroup", [116, 104, 101, 114, 101, 32, 97, 114, 101, 32, 110, 111, 32, 103, 114, 111, 117, 112, 115]), ("redline/api.ErrRune", [105, 116, 32, 105, 115, 32, 110, 111, 32, 85, 84, 70, 45, 56]), ("redline/api.ErrDepth", [105, 116, 32, 103, 111, 101, 115, 32, 116, 111, 111, 32, 100, 101, 101, 112]), ("redline/api.ErrForm", [105, 116, 32, 105, 115, 32, 110, 111, 116, 32, 111, 102, 32, 105, 116, 115, 32, 102, 111, 114, 109]), ("redline/api.ErrName", [116, 104, 101, 114, 101, 32, 105, 115, 32, 110, 111, 32, 115, 117, 99, 104, 32, 110, 97, 109, 101]), ("redline/api.ErrDup", [105, 116, 32, 105, 115, 32, 116, 104, 101, 114, 101, 32, 97, 108, 114, 101, 97, 100, 121]), ("redline/api.ErrKind", [105, 116, 32, 105, 115, 32, 111, 102, 32, 97, 110, 111, 116, 104, 101, 114, 32, 107, 105, 110, 100]), ("redline/api.ErrClash", [105, 116, 32, 105, 115, 32, 110, 111, 116, 32, 119, 104, 97, 116, 32, 105, 116, 32, 119, 97, 115]), ("redline/api.ErrNone", [116, 104, 101, 114, 101, 32, 105, 115, 32, 110, 111, 110, 101]), ("redline/api.ErrFull", [116, 104, 101, 114, 101, 32, 105, 115, 32, 110, 111, 32, 109, 111, 114, 101, 32, 114, 111, 111, 109]), ("redline/api.ErrState", [105, 116, 32, 99, 97, 110, 32, 110, 111, 116, 32, 98, 101, 32, 100, 111, 110, 101, 32, 105, 110, 32, 116, 104, 105, 115, 32, 115, 116, 97, 116, 101]), ("redline/api.ErrPower", [116, 104, 101, 32, 112, 111, 119, 101, 114, 32, 105, 115, 32, 103, 111, 110, 101]), ("redline/api.ErrSum", [116, 104, 101, 32, 115, 117, 109, 32, 105, 115, 32, 110, 111, 116, 32, 114, 105, 103, 104, 116]), ("redline/api.ErrConflict", [98, 111, 116, 104, 32, 115, 105, 100, 101, 115, 32, 99, 104, 97, 110, 103, 101, 100, 32, 105, 116])]
structure NE (A : Nat → Addr) (W : World) : Prop where
 cell : ∀ i, i < 19 → W.cell? ⟨gOf i, 0, none⟩ = some (.iface 183 (.pointer (some (A i))))
 blk : ∀ i, i < 19 → ∃ c t, W.heap[(A i).block]? = some (.cells c t (0, 0))
 ne : ∀ i j, i < 19 → j < 19 → i ≠ j → A i ≠ A j
theorem NE.keep {A : Nat → Addr} {W W' : World} (h : NE A W) (hb : Below W.heap.size W W') : NE A W' :=
 ⟨fun i hi => (hb.cell (World.block_lt_of_cell? W _ (h.cell i hi))).trans (h.cell i hi),
  fun i hi => by
   obtain ⟨c, t, e⟩ := h.blk i hi
   exact ⟨c, t, (hb.block _ (Array.getElem?_eq_some_iff.1 e).1).trans e⟩, h.ne⟩
theorem gRange : Tryz.prog.globalNamed "redline/api.ErrRange" = some 3 ∧ (Tryz.prog.globals[3]?).map (·.type) = some 47 := ⟨by kernel_rfl, by kernel_rfl⟩
theorem gShort : Tryz.prog.globalNamed "redline/api.ErrShort" = some 4 ∧ (Tryz.prog.globals[4]?).map (·.type) = some 47 := ⟨by kernel_rfl, by kernel_rfl⟩
theorem gLong : Tryz.prog.globalNamed "redline/api.ErrLong" = some 2 ∧ (Tryz.prog.globals[2]?).map (·.type) = some 47 := ⟨by kernel_rfl, by kernel_rfl⟩
theorem gVarint : Tryz.prog.globalNamed "redline/api.ErrVarint" = some 5 ∧ (Tryz.prog.globals[5]?).map (·.type) = some 47 := ⟨by kernel_rfl, by kernel_rfl⟩
theorem gTag : Tryz.prog.globalNamed "redline/api.ErrTag" = some 6 ∧ (Tryz.prog.globals[6]?).map (·.type) = some 47 := ⟨by kernel_rfl, by kernel_rfl⟩
theorem gGroup : Tryz.prog.globalNamed "redline/api.ErrGroup" = some 7 ∧ (Tryz.prog.globals[7]?).map (·.type) = some 47 := ⟨by kernel_rfl, by kernel_rfl⟩
theorem gRune : Tryz.prog.globalNamed "redline/api.ErrRune" = some 8 ∧ (Tryz.prog.globals[8]?).map (·.type) = some 47 := ⟨by kernel_rfl, by kernel_rfl⟩
theorem gDepth : Tryz.prog.globalNamed "redline/api.ErrDepth" = some 9 ∧ (Tryz.prog.globals[9]?).map (·.type) = some 47 := ⟨by kernel_rfl, by kernel_rfl⟩
theorem gForm : Tryz.prog.globalNamed "redline/api.ErrForm" = some 0 ∧ (Tryz.prog.globals[0]?).map (·.type) = some 47 := ⟨by kernel_rfl, by kernel_rfl⟩
theorem gName : Tryz.prog.globalNamed "redline/api.ErrName" = some 10 ∧ (Tryz.prog.globals[10]?).map (·.type) = some 47 := ⟨by kernel_rfl, by kernel_rfl⟩
theorem gDup : Tryz.prog.globalNamed "redline/api.ErrDup" = some 11 ∧ (Tryz.prog.globals[11]?).map (·.type) = some 47 := ⟨by kernel_rfl, by kernel_rfl⟩
theorem gKind : Tryz.prog.globalNamed "redline/api.ErrKind" = some 1 ∧ (Tryz.prog.globals[1]?).map (·.type) = some 47 := ⟨by kernel_rfl, by kernel_rfl⟩
theorem gClash : Tryz.prog.globalNamed "redline/api.ErrClash" = some 12 ∧ (Tryz.prog.globals[12]?).map (·.type) = some 47 := ⟨by kernel_rfl, by kernel_rfl⟩
theorem gNone : Tryz.prog.globalNamed "redline/api.ErrNone" = some 13 ∧ (Tryz.prog.globals[13]?).map (·.type) = some 47 := ⟨by kernel_rfl, by kernel_rfl⟩
theorem gFull : Tryz.prog.globalNamed "redline/api.ErrFull" = some 14 ∧ (Tryz.prog.globals[14]?).map (·.type) = some 47 := ⟨by kernel_rfl, by kernel_rfl⟩
theorem gState : Tryz.prog.globalNamed "redline/api.ErrState" = some 15 ∧ (Tryz.prog.globals[15]?).map (·.type) = some 47 := ⟨by kernel_rfl, by kernel_rfl⟩
theorem gPower : Tryz.prog.globalNamed "redline/api.ErrPower" = some 16 ∧ (Tryz.prog.globals[16]?).map (·.type) = some 47 := ⟨by kernel_rfl, by kernel_rfl⟩
theorem gSum : Tryz.prog.globalNamed "redline/api.ErrSum" = some 17 ∧ (Tryz.prog.globals[17]?).map (·.type) = some 47 := ⟨by kernel_rfl, by kernel_rfl⟩
theorem gConflict : Tryz.prog.globalNamed "redline/api.ErrConflict" = some 18 ∧ (Tryz.prog.globals[18]?).map (·.type) = some 47 := ⟨by kernel_rfl, by kernel_rfl⟩
theorem ne_of_laid {W : World} (h : laidMetH Tryz.prog [("redline/api.ErrRange", Rows.laid_redline_api_ErrRange), ("redline/api.ErrShort", Rows.laid_redline_api_ErrShort), ("redline/api.ErrLong", Rows.laid_redline_api_ErrLong), ("redline/api.ErrVarint", Rows.laid_redline_api_ErrVarint), ("redline/api.ErrTag", Rows.laid_redline_api_ErrTag), ("redline/api.ErrGroup", Rows.laid_redline_api_ErrGroup), ("redline/api.ErrRune", Rows.laid_redline_api_ErrRune), ("redline/api.ErrDepth", Rows.laid_redline_api_ErrDepth), ("redline/api.ErrForm", Rows.laid_redline_api_ErrForm), ("redline/api.ErrName", Rows.laid_redline_api_ErrName), ("redline/api.ErrDup", Rows.laid_redline_api_ErrDup), ("redline/api.ErrKind", Rows.laid_redline_api_ErrKind), ("redline/api.ErrClash", Rows.laid_redline_api_ErrClash), ("redline/api.ErrNone", Rows.laid_redline_api_ErrNone), ("redline/api.ErrFull", Rows.laid_redline_api_ErrFull), ("redline/api.ErrState", Rows.laid_redline_api_ErrState), ("redline/api.ErrPower", Rows.laid_redline_api_ErrPower), ("redline/api.ErrSum", Rows.laid_redline_api_ErrSum), ("redline/api.ErrConflict", Rows.laid_redline_api_ErrConflict)] W) : ∃ A, NE A W := by
 rw [MakeChecks.laidMetH_plain _ _ _ (by kernel_rfl)] at h
 obtain ⟨ps, h1, hnd, hrows⟩ := h
 have h1' : DataW.LaidVars Tryz.prog W (errTexts.map fun x => (x.1, (.iface "*errors.errorString" (.ptr (.agg [.lit (.string x.2)])) : DataW Unit))) ps := h1
 have hall : ∀ x ∈ errTexts, ∃ g, Tryz.prog.globalNamed x.1 = some g ∧ (Tryz.prog.globals[g]?).map (·.type) = some 47 := by
  intro x hx
  simp only [errTexts, List.mem_cons, List.not_mem_nil, or_false] at hx
  rcases hx with rfl | rfl | rfl | rfl | rfl | rfl | rfl | rfl | rfl | rfl | rfl | rfl | rfl | rfl | rfl | rfl | rfl | rfl | rfl
  ·exact ⟨_, gRange⟩
  ·exact ⟨_, gShort⟩
  ·exact ⟨_, gLong⟩
  ·exact ⟨_, gVarint⟩
  ·exact ⟨_, gTag⟩
  ·exact ⟨_, gGroup⟩
  ·exact ⟨_, gRune⟩
  ·exact ⟨_, gDepth⟩
  ·exact ⟨_, gForm⟩
  ·exact ⟨_, gName⟩
  ·exact ⟨_, gDup⟩
  ·exact ⟨_, gKind⟩
  ·exact ⟨_, gClash⟩
  ·exact ⟨_, gNone⟩
  ·exact ⟨_, gFull⟩
  ·exact ⟨_, gState⟩
  ·exact ⟨_, gPower⟩
  ·exact ⟨_, gSum⟩
  ·exact ⟨_, gConflict⟩
 obtain ⟨As, hl, hA, hB, hN⟩ := sent_list Tryz.underlying47 rowE Tryz.underlying183 Tryz.underlying208 rfl rfl Tryz.underlying9 (by kernel_rfl) (by kernel_rfl) errTexts ps h1' hall hrows hnd
 have hl19 : As.length = 19 := hl
 refine ⟨fun i => As.getD i ⟨0, 0, none⟩, fun i hi => ?_, fun i hi => ?_, fun i j hi hj hne => ?_⟩
 ·simp only [List.getD_eq_getElem?_getD, List.getElem?_eq_getElem (show i < As.length by omega), Option.getD_some]
  have key := hA i hi (by omega)
  have hg : Tryz.prog.globalNamed (errTexts[i]'hi).1 = some (gOf i) := by
   match i, hi with
   | 0, _ => exact gRange.1
   | 1, _ => exact gShort.1
   | 2, _ => exact gLong.1
   | 3, _ => exact gVarint.1
   | 4, _ => exact gTag.1
   | 5, _ => exact gGroup.1
   | 6, _ => exact gRune.1
   | 7, _ => exact gDepth.1
   | 8, _ => exact gForm.1
   | 9, _ => exact gName.1
   | 10, _ => exact gDup.1
   | 11, _ => exact gKind.1
   | 12, _ => exact gClash.1
   | 13, _ => exact gNone.1
   | 14, _ => exact gFull.1
   | 15, _ => exact gState.1
   | 16, _ => exact gPower.1
   | 17, _ => exact gSum.1
   | 18, _ => exact gConflict.1
   | k + 19, h => exact absurd h (by omega)
  exact key _ hg
 ·simp only [List.getD_eq_getElem?_getD, List.getElem?_eq_getElem (show i < As.length by omega), Option.getD_some]
  exact (hB _ (List.getElem_mem _)).1
 ·simp only [List.getD_eq_getElem?_getD, List.getElem?_eq_getElem (show i < As.length by omega), List.getElem?_eq_getElem (show j < As.length by omega), Option.getD_some]
  intro e
  rcases Nat.lt_or_gt_of_ne hne with h | h
  ·exact (List.pairwise_iff_getElem.1 hN i j (by omega) (by omega) h) e
  ·exact (List.pairwise_iff_getElem.1 hN j i (by omega) (by omega) h) e.symm
open Go.RowKit
def errV (a : Addr) : Value := .iface 183 (.pointer (some a))
def errCells (A : Nat → Addr) : List Value := [errV (A 0), errV (A 1), errV (A 2), errV (A 3), errV (A 4), errV (A 5), errV (A 6), errV (A 7), errV (A 8), errV (A 9), errV (A 10), errV (A 11), errV (A 12), errV (A 13), errV (A 14), errV (A 15), errV (A 16), errV (A 17), errV (A 18)]
theorem errCells_at (A : Nat → Addr) : ∀ i (h : i < 19), (errCells A)[i]'h = errV (A i) := by
 intro i h
 match i, h with
 | 0, _ => rfl
 | 1, _ => rfl
 | 2, _ => rfl
 | 3, _ => rfl
 | 4, _ => rfl
 | 5, _ => rfl
 | 6, _ => rfl
 | 7, _ => rfl
 | 8, _ => rfl
 | 9, _ => rfl
 | 10, _ => rfl
 | 11, _ => rfl
 | 12, _ => rfl
 | 13, _ => rfl
 | 14, _ => rfl
 | 15, _ => rfl
 | 16, _ => rfl
 | 17, _ => rfl
 | 18, _ => rfl
 | k + 19, h => exact absurd h (by omega)
theorem sizeErr (w : World) : (Go.sizeOf (Tryz.prog.elem 67)).run Tryz.prog w = .ok 1 w := by kernel_rfl
theorem all_any (A : Nat → Addr) (w : World) (h : NE A w) :
  Calls Tryz.prog 18 #[] w fun e w' => ∃ g, e = .returned (.slice (some ⟨g, 0, none⟩) 19 19) ∧ Row w' (some ⟨g, 0, none⟩) (errCells A) ∧ Below w.heap.size w w' := by
 have c0 : w.cell? ⟨3, 0, none⟩ = some (.iface 183 (.pointer (some (A 0)))) := h.cell 0 (by decide)
 have c1 : w.cell? ⟨4, 0, none⟩ = some (.iface 183 (.pointer (some (A 1)))) := h.cell 1 (by decide)
 have c2 : w.cell? ⟨2, 0, none⟩ = some (.iface 183 (.pointer (some (A 2)))) := h.cell 2 (by decide)
 have c3 : w.cell? ⟨5, 0, none⟩ = some (.iface 183 (.pointer (some (A 3)))) := h.cell 3 (by decide)
 have c4 : w.cell? ⟨6, 0, none⟩ = some (.iface 183 (.pointer (some (A 4)))) := h.cell 4 (by decide)
 have c5 : w.cell? ⟨7, 0, none⟩ = some (.iface 183 (.pointer (some (A 5)))) := h.cell 5 (by decide)
 have c6 : w.cell? ⟨8, 0, none⟩ = some (.iface 183 (.pointer (some (A 6)))) := h.cell 6 (by decide)
 have c7 : w.cell? ⟨9, 0, none⟩ = some (.iface 183 (.pointer (some (A 7)))) := h.cell 7 (by decide)
 have c8 : w.cell? ⟨0, 0, none⟩ = some (.iface 183 (.pointer (some (A 8)))) := h.cell 8 (by decide)
 have c9 : w.cell? ⟨10, 0, none⟩ = some (.iface 183 (.pointer (some (A 9)))) := h.cell 9 (by decide)
 have c10 : w.cell? ⟨11, 0, none⟩ = some (.iface 183 (.pointer (some (A 10)))) := h.cell 10 (by decide)
 have c11 : w.cell? ⟨1, 0, none⟩ = some (.iface 183 (.pointer (some (A 11)))) := h.cell 11 (by decide)
 have c12 : w.cell? ⟨12, 0, none⟩ = some (.iface 183 (.pointer (some (A 12)))) := h.cell 12 (by decide)
 have c13 : w.cell? ⟨13, 0, none⟩ = some (.iface 183 (.pointer (some (A 13)))) := h.cell 13 (by decide)
 have c14 : w.cell? ⟨14, 0, none⟩ = some (.iface 183 (.pointer (some (A 14)))) := h.cell 14 (by decide)
 have c15 : w.cell? ⟨15, 0, none⟩ = some (.iface 183 (.pointer (some (A 15)))) := h.cell 15 (by decide)
 have c16 : w.cell? ⟨16, 0, none⟩ = some (.iface 183 (.pointer (some (A 16)))) := h.cell 16 (by decide)
 have c17 : w.cell? ⟨17, 0, none⟩ = some (.iface 183 (.pointer (some (A 17)))) := h.cell 17 (by decide)
 have c18 : w.cell? ⟨18, 0, none⟩ = some (.iface 183 (.pointer (some (A 18)))) := h.cell 18 (by decide)
 have Hb : Hid (Below w.heap.size w (w.alloc (.cells (errCells A).toArray 47))) := (Below.refl _ _).alloc (Nat.le_refl _) _
 have HR : Hid (Row (w.alloc (.cells (errCells A).toArray 47)) (some ⟨w.heap.size, 0, none⟩) (errCells A)) := by
  refine .inr ⟨w.heap.size, 0, rfl, by simp, fun i hi => ?_⟩
  rw [Nat.zero_add, World.cell?_alloc_at _ _ _ _ rfl]
  simp
 clear h
 go_enter Tryz.func18, Tryz.ntmps18
 go_wp2
 go_ret
 exact ⟨w.heap.size, rfl, HR.out, Hb.out⟩
theorem num_nil (w : World) : Calls Tryz.prog 8 #[.nilIface] w fun e w' => e = .returned (.int .i64 0) ∧ Below w.heap.size w w' := by
 go_enter Tryz.func8, Tryz.ntmps8
 go_wp2
 go_ret
 exact ⟨rfl, Below.refl _ _⟩
theorem num_err (A : Nat → Addr) (w : World) (h : NE A w) (n : Nat) (hn : n < 19) :
  Calls Tryz.prog 8 #[errV (A n)] w fun e w' => e = .returned (.int .i64 (n + 1 : Nat)) ∧ Below w.heap.size w w' := by
 have HN := Yq (fun (wx : World) (hb : Below w.heap.size w wx) => h.keep hb)
 have HA := Yq (all_any A w h)
 have HS := Yq (fun (wx : World) => is_same (A n) wx)
 have HO := Yq (fun (k : Nat) (hk : k < 19) (hne : n ≠ k) (wx : World) (hb : Below w.heap.size w wx) => is_other (A n) (A k) _ _ _ _ wx (h.ne n k hn hk hne) ((h.keep hb).blk n hn).choose_spec.choose_spec ((h.keep hb).blk k hk).choose_spec.choose_spec)
 clear h
 unfold errV
 go_enter Tryz.func8, Tryz.ntmps8
 go_wp2_with fail
 refine HA.out.mono ?_
 rintro e w1 ⟨g, rfl, hR, hb1⟩
 have HR := Yq hR
 have Hb1 := Yq hb1
 clear hR hb1
 go_wp2_with fail
 go_loop [9] (fun i => ∃ k : Nat, k ≤ n ∧ i = .int .i64 k) (fun i => n + 1 - (intOf i).toNat)
 case atStart => exact ⟨0, Nat.zero_le _, rfl⟩
 case round =>
  obtain ⟨k, hk, rfl⟩ := hrel
  have hk19 : k < 19 := by omega
  obtain ⟨b, o, hb, hidx, hcell⟩ := idx (P := Tryz.prog) (t := 67) (n := 19) (cap := 19) HR.out (i := k) hk19 rfl Tryz.underlying67 sizeErr
  replace hcell := hcell.trans (congrArg some (errCells_at A k hk19))
  unfold errV at hcell
  by_cases hkn : k = n
  ·subst hkn
   go_wp2_with (go_at_call 19; (with_reducible refine (HS.out _).mono ?_); rintro e w2 ⟨rfl, rfl⟩)
   go_ret
   exact ⟨ret_int (by simp), Hb1.out⟩
  ·have hlt : k < n := by omega
   have HOk := Yq (HO.out k hk19 (fun e => hkn e.symm) w1 Hb1.out)
   go_wp2_with (go_at_call 19; (with_reducible refine HOk.out.mono ?_); rintro e w2 ⟨rfl, rfl⟩)
   go_round
   case rel => exact ⟨k + 1, by omega, by go_num⟩
   case measure => simp [intOf]; omega
end Go.Proofs.YtlmbcoecipbblaaGreatDoor
