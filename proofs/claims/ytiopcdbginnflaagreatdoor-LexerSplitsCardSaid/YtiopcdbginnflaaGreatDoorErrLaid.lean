/- The nineteen errors of package api, as the program's text lays them: nineteen pointers, no two alike. -/
import Derived.Test.YtiopcdbginnflaaGreatDoorErrIs
import Derived.Test.YtiopcdbginnflaaGreatDoorTie
import Derived.ProofKit
import Derived.LaidMore
import Derived.OpenShut
import Derived.Stop.Joined
namespace Go.Proofs.YtiopcdbginnflaaGreatDoor
open Go.ChangeShapes Go.WideShapes Go.ChangeAt Go.RowKit
set_option linter.unusedVariables false

theorem sent_list {P : Program} {W : World} {nm : String} {ti tp te ts : TypeId} {ms : Array (String × TypeId)} {f : Field} (hi : P.underlying ti = some (.interface ms)) (hrow : ∀ u, P.typeName? 3 u = some nm → u = tp)
    (hp : P.underlying tp = some (.pointer te)) (he : P.underlying te = some (.struct #[f])) (hft : f.type = ts) (hfo : f.offset = 0) (hs : P.underlying ts = some .string) (hc : P.cellsOf te = 1) (hcs : P.cellsOf ts = 1) :
    ∀ (l : List (String × List UInt8)) (ps : List MemPlace), DataW.LaidVars P W (l.map fun x => (x.1, (.iface nm (.ptr (.agg [.lit (.string x.2)])) : DataW Unit))) ps →
      (∀ x ∈ l, ∃ g, P.globalNamed x.1 = some g ∧ (P.globals[g]?).map (·.type) = some ti) →
      (∀ b off, MemPlace.cell b off ∈ ps → (∃ c t, W.heap[b]? = some (.cells c t (0, 0))) ∧ ∀ u v, W.cell? ⟨b, off, none⟩ = some (.iface u v) → Value.okWide P W .any 0 u v) → ps.Nodup →
      ∃ As : List Addr, As.length = l.length ∧ (∀ (i : Nat) (h : i < l.length) (h2 : i < As.length) g, P.globalNamed l[i].1 = some g → W.cell? ⟨g, 0, none⟩ = some (.iface tp (.pointer (some As[i])))) ∧
        (∀ a ∈ As, (∃ c t, W.heap[a.block]? = some (.cells c t (0, 0))) ∧ MemPlace.cell a.block a.off ∈ ps) ∧ As.Nodup
  | [], ps, h, _, _, _ => ⟨[], rfl, fun i h => absurd h (by simp), fun a h => (by cases h), List.nodup_nil⟩
  | (n, tx) :: r, ps, h, hall, hrows, hnd => by
    obtain ⟨g, t, cs, fu, p, q, hg, ht, hv, hd, hrest, rfl⟩ := h
    obtain ⟨g', hg', ht'⟩ := hall (n, tx) (by simp)
    obtain rfl := Option.some.inj (hg'.symm.trans hg)
    obtain rfl := Option.some.inj (ht'.symm.trans ht)
    obtain ⟨l0⟩ := cs
    have hsz : 0 < l0.length := by
      obtain ⟨_, u, v, e, _⟩ := iface_of_trod hi hd
      have e : l0 = _ := e
      rw [e]; simp
    have ok0 : ∀ u v, l0 = [.iface u v] → Value.okWide P W .any 0 u v := fun u v e => by
      subst e
      exact (hrows g' 0 (by simp [MemPlace.row])).2 u v (by simpa using World.var?_cell hg hv 0)
    obtain ⟨a, s, e0, hca, hst, hzs, rfl⟩ := errorString_of_trod hi hrow hp he hft hfo hs hc hcs hd ok0
    have e0 : l0 = _ := e0
    subst e0
    rw [List.nodup_append] at hnd
    obtain ⟨hnd1, hnd2, hnd3⟩ := hnd
    obtain ⟨As, hl, hA, hB, hN⟩ := sent_list hi hrow hp he hft hfo hs hc hcs r q hrest (fun x hx => hall x (by simp [hx])) (fun b off hm => hrows b off (List.mem_append_right _ hm)) hnd2
    have hmem : MemPlace.cell a.block a.off ∈ MemPlace.row ⟨g', 0, none⟩ 1 ++ MemPlace.row a 1 := List.mem_append_right _ (by simp [MemPlace.row])
    refine ⟨a :: As, by simp [hl], fun i h h2 gg hgg => ?_, fun b hb => ?_, ?_⟩
    · cases i with
      | zero =>
        simp only [List.getElem_cons_zero] at hgg ⊢
        obtain rfl := Option.some.inj (hgg.symm.trans hg)
        simpa using World.var?_cell hg hv 0
      | succ i =>
        simp only [List.getElem_cons_succ] at hgg ⊢
        exact hA i (by simpa using h) (by simpa using h2) gg hgg
    · rcases List.mem_cons.1 hb with rfl | hb
      · exact ⟨(hrows _ _ (List.mem_append_left _ hmem)).1, List.mem_append_left _ hmem⟩
      · exact ⟨(hB b hb).1, List.mem_append_right _ (hB b hb).2⟩
    · refine List.nodup_cons.2 ⟨fun hm => ?_, hN⟩
      exact hnd3 _ hmem _ (hB a hm).2 rfl

theorem starE : "*" ++ "errors.errorString" = "*errors.errorString" := by decide
theorem rowE (u : TypeId) (h : Tryz.prog.typeName? 3 u = some "*errors.errorString") : u = 125 :=
  typeName_ptr_named (nm := "errors.errorString") (by rw [starE]; kernel_rfl) (by kernel_rfl) (by decide) u (by rw [starE]; exact h)
def gOf (i : Nat) : Nat := [3, 4, 0, 5, 6, 7, 8, 9, 1, 10, 11, 12, 13, 14, 15, 16, 17, 18, 19].getD i 0
def errTexts : List (String × List UInt8) := [("redline/api.ErrRange", [97, 32, 110, 117, 109, 98, 101, 114, 32, 105, 115, 32, 111, 117, 116, 32, 111, 102, 32, 105, 116, 115, 32, 114, 97, 110, 103, 101]), ("redline/api.ErrShort", [115, 111, 109, 101, 116, 104, 105, 110, 103, 32, 105, 115, 32, 109, 105, 115, 115, 105, 110, 103, 32, 97, 116, 32, 116, 104, 101, 32, 101, 110, 100]), ("redline/api.ErrLong", [116, 104, 101, 114, 101, 32, 105, 115, 32, 109, 111, 114, 101, 32, 116, 104, 97, 110, 32, 109, 97, 121, 32, 98, 101]), ("redline/api.ErrVarint", [105, 116, 32, 105, 115, 32, 110, 111, 32, 118, 97, 114, 105, 110, 116]), ("redline/api.ErrTag", [105, 116, 32, 105, 115, 32, 110, 111, 32, 116, 97, 103]), ("redline/api.ErrGroup", [116, 104, 101, 114, 101, 32, 97, 114, 101, 32, 110, 111, 32, 103, 114, 111, 117, 112, 115]), ("redline/api.ErrRune", [105, 116, 32, 105, 115, 32, 110, 111, 32, 85, 84, 70, 45, 56]), ("redline/api.ErrDepth", [105, 116, 32, 103, 111, 101, 115, 32, 116, 111, 111, 32, 100, 101, 101, 112]), ("redline/api.ErrForm", [105, 116, 32, 105, 115, 32, 110, 111, 116, 32, 111, 102, 32, 105, 116, 115, 32, 102, 111, 114, 109]), ("redline/api.ErrName", [116, 104, 101, 114, 101, 32, 105, 115, 32, 110, 111, 32, 115, 117, 99, 104, 32, 110, 97, 109, 101]), ("redline/api.ErrDup", [105, 116, 32, 105, 115, 32, 116, 104, 101, 114, 101, 32, 97, 108, 114, 101, 97, 100, 121]), ("redline/api.ErrKind", [105, 116, 32, 105, 115, 32, 111, 102, 32, 97, 110, 111, 116, 104, 101, 114, 32, 107, 105, 110, 100]), ("redline/api.ErrClash", [105, 116, 32, 105, 115, 32, 110, 111, 116, 32, 119, 104, 97, 116, 32, 105, 116, 32, 119, 97, 115]), ("redline/api.ErrNone", [116, 104, 101, 114, 101, 32, 105, 115, 32, 110, 111, 110, 101]), ("redline/api.ErrFull", [116, 104, 101, 114, 101, 32, 105, 115, 32, 110, 111, 32, 109, 111, 114, 101, 32, 114, 111, 111, 109]), ("redline/api.ErrState", [105, 116, 32, 99, 97, 110, 32, 110, 111, 116, 32, 98, 101, 32, 100, 111, 110, 101, 32, 105, 110, 32, 116, 104, 105, 115, 32, 115, 116, 97, 116, 101]), ("redline/api.ErrPower", [116, 104, 101, 32, 112, 111, 119, 101, 114, 32, 105, 115, 32, 103, 111, 110, 101]), ("redline/api.ErrSum", [116, 104, 101, 32, 115, 117, 109, 32, 105, 115, 32, 110, 111, 116, 32, 114, 105, 103, 104, 116]), ("redline/api.ErrConflict", [98, 111, 116, 104, 32, 115, 105, 100, 101, 115, 32, 99, 104, 97, 110, 103, 101, 100, 32, 105, 116])]
/-- where the nineteen errors stand -/
structure NE (A : Nat → Addr) (W : World) : Prop where
  cell : ∀ i, i < 19 → W.cell? ⟨gOf i, 0, none⟩ = some (.iface 125 (.pointer (some (A i))))
  blk : ∀ i, i < 19 → ∃ c t, W.heap[(A i).block]? = some (.cells c t (0, 0))
  ne : ∀ i j, i < 19 → j < 19 → i ≠ j → A i ≠ A j
theorem NE.keep {A : Nat → Addr} {W W' : World} (h : NE A W) (hb : Below W.heap.size W W') : NE A W' :=
  ⟨fun i hi => (hb.cell (World.block_lt_of_cell? W _ (h.cell i hi))).trans (h.cell i hi),
   fun i hi => by
    obtain ⟨c, t, e⟩ := h.blk i hi
    exact ⟨c, t, (hb.block _ (Array.getElem?_eq_some_iff.1 e).1).trans e⟩, h.ne⟩
theorem gRange : Tryz.prog.globalNamed "redline/api.ErrRange" = some 3 ∧ (Tryz.prog.globals[3]?).map (·.type) = some 25 := ⟨by kernel_rfl, by kernel_rfl⟩
theorem gShort : Tryz.prog.globalNamed "redline/api.ErrShort" = some 4 ∧ (Tryz.prog.globals[4]?).map (·.type) = some 25 := ⟨by kernel_rfl, by kernel_rfl⟩
theorem gLong : Tryz.prog.globalNamed "redline/api.ErrLong" = some 0 ∧ (Tryz.prog.globals[0]?).map (·.type) = some 25 := ⟨by kernel_rfl, by kernel_rfl⟩
theorem gVarint : Tryz.prog.globalNamed "redline/api.ErrVarint" = some 5 ∧ (Tryz.prog.globals[5]?).map (·.type) = some 25 := ⟨by kernel_rfl, by kernel_rfl⟩
theorem gTag : Tryz.prog.globalNamed "redline/api.ErrTag" = some 6 ∧ (Tryz.prog.globals[6]?).map (·.type) = some 25 := ⟨by kernel_rfl, by kernel_rfl⟩
theorem gGroup : Tryz.prog.globalNamed "redline/api.ErrGroup" = some 7 ∧ (Tryz.prog.globals[7]?).map (·.type) = some 25 := ⟨by kernel_rfl, by kernel_rfl⟩
theorem gRune : Tryz.prog.globalNamed "redline/api.ErrRune" = some 8 ∧ (Tryz.prog.globals[8]?).map (·.type) = some 25 := ⟨by kernel_rfl, by kernel_rfl⟩
theorem gDepth : Tryz.prog.globalNamed "redline/api.ErrDepth" = some 9 ∧ (Tryz.prog.globals[9]?).map (·.type) = some 25 := ⟨by kernel_rfl, by kernel_rfl⟩
theorem gForm : Tryz.prog.globalNamed "redline/api.ErrForm" = some 1 ∧ (Tryz.prog.globals[1]?).map (·.type) = some 25 := ⟨by kernel_rfl, by kernel_rfl⟩
theorem gName : Tryz.prog.globalNamed "redline/api.ErrName" = some 10 ∧ (Tryz.prog.globals[10]?).map (·.type) = some 25 := ⟨by kernel_rfl, by kernel_rfl⟩
theorem gDup : Tryz.prog.globalNamed "redline/api.ErrDup" = some 11 ∧ (Tryz.prog.globals[11]?).map (·.type) = some 25 := ⟨by kernel_rfl, by kernel_rfl⟩
theorem gKind : Tryz.prog.globalNamed "redline/api.ErrKind" = some 12 ∧ (Tryz.prog.globals[12]?).map (·.type) = some 25 := ⟨by kernel_rfl, by kernel_rfl⟩
theorem gClash : Tryz.prog.globalNamed "redline/api.ErrClash" = some 13 ∧ (Tryz.prog.globals[13]?).map (·.type) = some 25 := ⟨by kernel_rfl, by kernel_rfl⟩
theorem gNone : Tryz.prog.globalNamed "redline/api.ErrNone" = some 14 ∧ (Tryz.prog.globals[14]?).map (·.type) = some 25 := ⟨by kernel_rfl, by kernel_rfl⟩
theorem gFull : Tryz.prog.globalNamed "redline/api.ErrFull" = some 15 ∧ (Tryz.prog.globals[15]?).map (·.type) = some 25 := ⟨by kernel_rfl, by kernel_rfl⟩
theorem gState : Tryz.prog.globalNamed "redline/api.ErrState" = some 16 ∧ (Tryz.prog.globals[16]?).map (·.type) = some 25 := ⟨by kernel_rfl, by kernel_rfl⟩
theorem gPower : Tryz.prog.globalNamed "redline/api.ErrPower" = some 17 ∧ (Tryz.prog.globals[17]?).map (·.type) = some 25 := ⟨by kernel_rfl, by kernel_rfl⟩
theorem gSum : Tryz.prog.globalNamed "redline/api.ErrSum" = some 18 ∧ (Tryz.prog.globals[18]?).map (·.type) = some 25 := ⟨by kernel_rfl, by kernel_rfl⟩
theorem gConflict : Tryz.prog.globalNamed "redline/api.ErrConflict" = some 19 ∧ (Tryz.prog.globals[19]?).map (·.type) = some 25 := ⟨by kernel_rfl, by kernel_rfl⟩

theorem ne_of_laid {W : World} (h : laidMetH Tryz.prog [("redline/api.ErrRange", Rows.laid_redline_api_ErrRange), ("redline/api.ErrShort", Rows.laid_redline_api_ErrShort), ("redline/api.ErrLong", Rows.laid_redline_api_ErrLong), ("redline/api.ErrVarint", Rows.laid_redline_api_ErrVarint), ("redline/api.ErrTag", Rows.laid_redline_api_ErrTag), ("redline/api.ErrGroup", Rows.laid_redline_api_ErrGroup), ("redline/api.ErrRune", Rows.laid_redline_api_ErrRune), ("redline/api.ErrDepth", Rows.laid_redline_api_ErrDepth), ("redline/api.ErrForm", Rows.laid_redline_api_ErrForm), ("redline/api.ErrName", Rows.laid_redline_api_ErrName), ("redline/api.ErrDup", Rows.laid_redline_api_ErrDup), ("redline/api.ErrKind", Rows.laid_redline_api_ErrKind), ("redline/api.ErrClash", Rows.laid_redline_api_ErrClash), ("redline/api.ErrNone", Rows.laid_redline_api_ErrNone), ("redline/api.ErrFull", Rows.laid_redline_api_ErrFull), ("redline/api.ErrState", Rows.laid_redline_api_ErrState), ("redline/api.ErrPower", Rows.laid_redline_api_ErrPower), ("redline/api.ErrSum", Rows.laid_redline_api_ErrSum), ("redline/api.ErrConflict", Rows.laid_redline_api_ErrConflict)] W) : ∃ A, NE A W := by
  rw [MakeChecks.laidMetH_plain _ _ _ (by kernel_rfl)] at h
  obtain ⟨ps, h1, hnd, hrows⟩ := h
  have h1' : DataW.LaidVars Tryz.prog W (errTexts.map fun x => (x.1, (.iface "*errors.errorString" (.ptr (.agg [.lit (.string x.2)])) : DataW Unit))) ps := h1
  have hall : ∀ x ∈ errTexts, ∃ g, Tryz.prog.globalNamed x.1 = some g ∧ (Tryz.prog.globals[g]?).map (·.type) = some 25 := by
    intro x hx
    simp only [errTexts, List.mem_cons, List.not_mem_nil, or_false] at hx
    rcases hx with rfl | rfl | rfl | rfl | rfl | rfl | rfl | rfl | rfl | rfl | rfl | rfl | rfl | rfl | rfl | rfl | rfl | rfl | rfl
    · exact ⟨_, gRange⟩
    · exact ⟨_, gShort⟩
    · exact ⟨_, gLong⟩
    · exact ⟨_, gVarint⟩
    · exact ⟨_, gTag⟩
    · exact ⟨_, gGroup⟩
    · exact ⟨_, gRune⟩
    · exact ⟨_, gDepth⟩
    · exact ⟨_, gForm⟩
    · exact ⟨_, gName⟩
    · exact ⟨_, gDup⟩
    · exact ⟨_, gKind⟩
    · exact ⟨_, gClash⟩
    · exact ⟨_, gNone⟩
    · exact ⟨_, gFull⟩
    · exact ⟨_, gState⟩
    · exact ⟨_, gPower⟩
    · exact ⟨_, gSum⟩
    · exact ⟨_, gConflict⟩
  obtain ⟨As, hl, hA, hB, hN⟩ := sent_list Tryz.underlying25 rowE Tryz.underlying125 Tryz.underlying127 rfl rfl Tryz.underlying9 (by kernel_rfl) (by kernel_rfl) errTexts ps h1' hall hrows hnd
  have hl19 : As.length = 19 := hl
  refine ⟨fun i => As.getD i ⟨0, 0, none⟩, fun i hi => ?_, fun i hi => ?_, fun i j hi hj hne => ?_⟩
  · simp only [List.getD_eq_getElem?_getD, List.getElem?_eq_getElem (show i < As.length by omega), Option.getD_some]
    have key := hA i hi (by omega)
    have hg : Tryz.prog.globalNamed (errTexts[i]'hi).1 = some (gOf i) := by
      match i, hi with
      | 0, _ => exact gRange.1
      | 1, _ => exact gShort.1
      | 2, _ => exact gLong.1
      | 3, _ => exact gVarint.1
      | 4, _ => exact gTag.1
      | 5, _ => exact gGroup.1
      | 6, _ => exact gRune.1
      | 7, _ => exact gDepth.1
      | 8, _ => exact gForm.1
      | 9, _ => exact gName.1
      | 10, _ => exact gDup.1
      | 11, _ => exact gKind.1
      | 12, _ => exact gClash.1
      | 13, _ => exact gNone.1
      | 14, _ => exact gFull.1
      | 15, _ => exact gState.1
      | 16, _ => exact gPower.1
      | 17, _ => exact gSum.1
      | 18, _ => exact gConflict.1
      | k + 19, h => exact absurd h (by omega)
    exact key _ hg
  · simp only [List.getD_eq_getElem?_getD, List.getElem?_eq_getElem (show i < As.length by omega), Option.getD_some]
    exact (hB _ (List.getElem_mem _)).1
  · simp only [List.getD_eq_getElem?_getD, List.getElem?_eq_getElem (show i < As.length by omega), List.getElem?_eq_getElem (show j < As.length by omega), Option.getD_some]
    intro e
    rcases Nat.lt_or_gt_of_ne hne with h | h
    · exact (List.pairwise_iff_getElem.1 hN i j (by omega) (by omega) h) e
    · exact (List.pairwise_iff_getElem.1 hN j i (by omega) (by omega) h) e.symm

end Go.Proofs.YtiopcdbginnflaaGreatDoor
