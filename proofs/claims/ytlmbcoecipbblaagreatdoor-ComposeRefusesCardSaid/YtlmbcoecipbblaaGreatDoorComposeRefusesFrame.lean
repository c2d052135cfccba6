/- The statement Rows.ComposeRefusesSaid: whatever the input, the law returns true, and its arguments read as they did. The frame: the arguments are read, the walk is made, the arguments are read again. -/
import Derived.Test.YtlmbcoecipbblaaGreatDoorGpU
import Derived.ProofKit
import Derived.OpenShut
import Derived.ShutString
import Derived.ChangeOld
import Derived.SliceStrings
import Derived.Test.YtlmbcoecipbblaaGreatDoorGpQ
import Derived.Test.YtlmbcoecipbblaaGreatDoorCards
import Derived.SevenTiedAt
namespace Go.Proofs.YtlmbcoecipbblaaGreatDoor.composeRefusesFrame
open Go.ChangeShapes Go.WideShapes Go.ChangeAt Go.RowKit
open Go.ChangeMaps (open_string shut_string)
set_option linter.unusedVariables false

abbrev LDL : List (String × DataW Unit) := [("redline/api.ErrRange", Rows.laid_redline_api_ErrRange), ("redline/api.ErrShort", Rows.laid_redline_api_ErrShort), ("redline/api.ErrLong", Rows.laid_redline_api_ErrLong), ("redline/api.ErrVarint", Rows.laid_redline_api_ErrVarint), ("redline/api.ErrTag", Rows.laid_redline_api_ErrTag), ("redline/api.ErrGroup", Rows.laid_redline_api_ErrGroup), ("redline/api.ErrRune", Rows.laid_redline_api_ErrRune), ("redline/api.ErrDepth", Rows.laid_redline_api_ErrDepth), ("redline/api.ErrForm", Rows.laid_redline_api_ErrForm), ("redline/api.ErrName", Rows.laid_redline_api_ErrName), ("redline/api.ErrDup", Rows.laid_redline_api_ErrDup), ("redline/api.ErrKind", Rows.laid_redline_api_ErrKind), ("redline/api.ErrClash", Rows.laid_redline_api_ErrClash), ("redline/api.ErrNone", Rows.laid_redline_api_ErrNone), ("redline/api.ErrFull", Rows.laid_redline_api_ErrFull), ("redline/api.ErrState", Rows.laid_redline_api_ErrState), ("redline/api.ErrPower", Rows.laid_redline_api_ErrPower), ("redline/api.ErrSum", Rows.laid_redline_api_ErrSum), ("redline/api.ErrConflict", Rows.laid_redline_api_ErrConflict)]
theorem own : ownKnob Tryz.prog.godebug = none := by kernel_rfl
theorem laidOut : laidOutB Tryz.prog = true := by kernel_rfl

/-- The door's own heap meets the condition: closed facts. -/
theorem door_met (os : Os) (args : Array Value) : laidMetH Tryz.prog LDL ((World.doorLaid Tryz.prog 400 os).forCall (fun _ _ => 0) ⟨#[], args, []⟩).memory :=
  laidMetH_of_parts3 (fuel := 8) (laidMet_of_run' 8 (by kernel_rfl) (by kernel_rfl)) (by kernel_rfl) (by kernel_rfl)

set_option maxRecDepth 100000 in
theorem lifted (os : Os) (started : os.Started) (H : Type) (enc : TypeId × Value → H) :
    ReturnsInHanded {} Tryz.checked os 3 .any (fun w args => (Rows.composeRefusesSpec.pre enc Tryz.prog Tryz.f3 [] false w args ∧ laidMetH Tryz.prog LDL w) ∧ sizedMet enc Tryz.prog Tryz.f3 (OpenSpec.ofChange Rows.composeRefusesSpec) false w args)
      (Rows.composeRefusesSpec.post enc Tryz.prog Tryz.f3 false true false false) := by
  refine returnsInHanded_of_change_and (C := Tryz.checked) (X := fun w _ => laidMetH Tryz.prog LDL w) (fun _ _ _ hh h => h.of_heap hh) own started (by kernel_rfl) Tryz.func3
    (ChangeSpec.witness_shaped (enc := enc) (C := Tryz.checked) (os := os) (X := fun w _ => laidMetH Tryz.prog LDL w) false (World.doorLaid Tryz.prog 400 os) #[.agg #[.int .i64 0, .int .i64 0, .int .u64 0, .string ByteArray.empty, .slice none 0 0, .string ByteArray.empty, .slice none 0 0, .slice none 0 0, .int .i64 0, .int .u64 0, .string ByteArray.empty, .slice none 0 0, .string ByteArray.empty, .slice none 0 0, .slice none 0 0, .slice none 0 0, .bool false, .string ByteArray.empty, .string ByteArray.empty, .slice none 0 0, .slice none 0 0], .agg #[.int .i64 0, .int .i64 0, .int .u64 0, .string ByteArray.empty, .slice none 0 0, .string ByteArray.empty, .slice none 0 0, .slice none 0 0, .int .i64 0, .int .u64 0, .string ByteArray.empty, .slice none 0 0, .string ByteArray.empty, .slice none 0 0, .slice none 0 0, .slice none 0 0, .bool false, .string ByteArray.empty, .string ByteArray.empty, .slice none 0 0, .slice none 0 0]] 8 rfl (World.shaped_of_RefB (by kernel_rfl) (by kernel_rfl)) (by kernel_rfl) (by kernel_rfl) (by kernel_rfl) (door_met os _)) ?_
  intro W base args ds gs before hval0 hW _ _ hL _
  have hval : ∀ (j : Nat) t v, Tryz.f3.params[j]? = some t → args[j]? = some v → Value.okWide Tryz.prog W .any base t v := hval0
  have hW' := hW
  obtain ⟨p, q, hA0, hV, rfl, hfz, hnd⟩ := hW
  have hA : DataW.TrodAll enc Tryz.prog W 0 (fun _ => true) true Tryz.f3.params.toList args.toList ds p := hA0
  rw [Tryz.params3] at hA hval
  obtain ⟨v0, vs0, d0, ds0, p0, q0, hargs, rfl, rfl, h0, r0⟩ := trodAll_cons hA
  obtain ⟨v1, vs1, d1, ds1, p1, q1, rfl, rfl, rfl, h1, r1⟩ := trodAll_cons r0
  obtain ⟨rfl, rfl, rfl⟩ := trodAll_nil r1
  obtain rfl : args = #[v0, v1] := by cases args; simp_all
  obtain ⟨rfl, rfl⟩ := trodVars_none hV
  have k0 := h0
  have lt0 : ∀ x ∈ p0, x.block < W.heap.size := by obtain ⟨m, hm⟩ := k0; exact DataW.trod_lt m _ _ _ hm
  have o0 := hval 0 32 v0 rfl rfl
  have k1 := h1
  have lt1 : ∀ x ∈ p1, x.block < W.heap.size := by obtain ⟨m, hm⟩ := k1; exact DataW.trod_lt m _ _ _ hm
  have o1 := hval 1 32 v1 rfl rfl
  clear hA0 hval0
  refine (composeRefuses_walk W (ne_of_laid hL) o0 h0 o1 h1).mono fun e W' ⟨he, bel⟩ => ?_
  subst he
  exact ⟨_, rfl, _, _, _, [], _, [], hW', trodAll_mk1 (shut_bool Tryz.underlying4 _), (trodAll_cons_mk (Below.trod laidOut (by kernel_rfl) (of_decide_eq_true (by kernel_rfl)) k0 bel lt0) (trodAll_cons_mk (Below.trod laidOut (by kernel_rfl) (of_decide_eq_true (by kernel_rfl)) k1 bel lt1) trodAll_mk0)), rfl, bel.frame _, fun h => by cases h⟩

theorem over : Rows.composeRefusesRow.holds Tryz.pinned (OpenSpec.ofChange Rows.composeRefusesSpec) :=
  OpenClaim.holds_of_wide 3 Tryz.f3 rfl rfl rfl rfl rfl rfl rfl ⟨rfl, rfl, rfl, rfl, rfl⟩ rfl rfl rfl rfl rfl (by kernel_rfl) Tryz.func3 (by kernel_rfl)
    (of_decide_eq_true (by kernel_rfl)) (by unfold Func.isWrapper; first | (rw [if_pos (by decide +kernel)]; kernel_rfl) | (rw [if_neg (by decide +kernel)]; exact ⟨rfl, rfl⟩))
    (fun os started H enc _ => lifted os started H enc)

theorem card_over : Claim7.holds Tryz.pinned (.plain (OpenSpec.ofChange Rows.composeRefusesSpec)) Rows.composeRefusesCard :=
  Claim7.holds_tied_plain_at .later [] [.sentinel, .sentinel, .sentinel, .sentinel, .sentinel, .sentinel, .sentinel, .sentinel, .sentinel, .sentinel, .sentinel, .sentinel, .sentinel, .sentinel, .sentinel, .sentinel, .sentinel, .sentinel, .sentinel] true (true, "f6bbe21d4ee1fee9b399d3f005fe542ffe77747f6486f2bea97bb81a6e100db2") true
    over (fun _ h => by cases h) (by kernel_rfl) (fun _ h => by cases h) composeRefuses_row_tie rfl ⟨rfl, rfl⟩ (by kernel_rfl) rfl
    (fun f fn hf hfn => by
      obtain rfl : f = 3 := Option.some.inj ((show Tryz.prog.funcNamed "redline/redlinelaw25.ComposeRefuses" = some 3 by kernel_rfl).symm.trans hf) |>.symm
      obtain rfl : fn = Tryz.f3 := (Option.some.inj (Tryz.func3.symm.trans hfn)).symm
      exact ⟨by kernel_rfl, fun j t ht => by
        rw [Tryz.params3] at ht
        have hm : t ∈ [32, 32] := by simpa using Array.mem_of_getElem? ht
        have hall : ([32, 32].all fun u => !Tryz.prog.wantsStandIn u) = true := by kernel_rfl
        exact (show Tryz.prog.wantsStandIn t = false by simpa using List.all_eq_true.1 hall t hm)⟩)
    (by kernel_rfl)

end Go.Proofs.YtlmbcoecipbblaaGreatDoor.composeRefusesFrame

namespace Go.Proofs.YtlmbcoecipbblaaGreatDoor
theorem composeRefuses_holds : Rows.ComposeRefusesCardSaid := composeRefusesFrame.card_over
#print axioms composeRefuses_holds
end Go.Proofs.YtlmbcoecipbblaaGreatDoor
