/- The statement Rows.LexerFaultsSaid: whatever the input, the law returns true, and its arguments read as they did. The frame: the arguments are read, the walk is made, the arguments are read again. -/
import Derived.Test.YtiopcdbginnflaaDoorLexerFaultsLaw
import Derived.ProofKit
import Derived.OpenShut
import Derived.ShutString
import Derived.ChangeOld
import Derived.SliceStrings
import Derived.Test.YtiopcdbginnflaaDoorLexerFaultsLaid
import Derived.Test.YtiopcdbginnflaaDoorCards
import Derived.SevenTiedAt
namespace Go.Proofs.YtiopcdbginnflaaDoor.lexerFaultsFrame
open Go.ChangeShapes Go.WideShapes Go.ChangeAt Go.RowKit
open Go.ChangeMaps (open_string shut_string)
set_option linter.unusedVariables false

theorem own : ownKnob Tryd.prog.godebug = none := by kernel_rfl
theorem laidOut : laidOutB Tryd.prog = true := by kernel_rfl

/-- The door's own heap meets the condition: closed facts. -/
theorem door_met (os : Os) (args : Array Value) : laidMetH Tryd.prog [("math/bits.deBruijn32tab", Rows.laid_math_bits_deBruijn32tab), ("math/bits.deBruijn64tab", Rows.laid_math_bits_deBruijn64tab), ("internal/strconv.uint64pow10", Rows.laid_internal_strconv_uint64pow10), ("errors.errorType", Rows.laid_errors_errorType), ("redline/api.ErrRange", Rows.laid_redline_api_ErrRange), ("redline/api.ErrShort", Rows.laid_redline_api_ErrShort), ("redline/api.ErrLong", Rows.laid_redline_api_ErrLong), ("redline/api.ErrVarint", Rows.laid_redline_api_ErrVarint), ("redline/api.ErrTag", Rows.laid_redline_api_ErrTag), ("redline/api.ErrGroup", Rows.laid_redline_api_ErrGroup), ("redline/api.ErrRune", Rows.laid_redline_api_ErrRune), ("redline/api.ErrDepth", Rows.laid_redline_api_ErrDepth), ("redline/api.ErrForm", Rows.laid_redline_api_ErrForm), ("redline/api.ErrName", Rows.laid_redline_api_ErrName), ("redline/api.ErrDup", Rows.laid_redline_api_ErrDup), ("redline/api.ErrKind", Rows.laid_redline_api_ErrKind), ("redline/api.ErrClash", Rows.laid_redline_api_ErrClash), ("redline/api.ErrNone", Rows.laid_redline_api_ErrNone), ("redline/api.ErrFull", Rows.laid_redline_api_ErrFull), ("redline/api.ErrState", Rows.laid_redline_api_ErrState), ("redline/api.ErrPower", Rows.laid_redline_api_ErrPower), ("redline/api.ErrSum", Rows.laid_redline_api_ErrSum), ("redline/api.ErrConflict", Rows.laid_redline_api_ErrConflict), ("strconv.ErrRange", Rows.laid_strconv_ErrRange), ("strconv.ErrSyntax", Rows.laid_strconv_ErrSyntax)] ((World.doorLaid Tryd.prog 4000 os).forCall (fun _ _ => 0) ⟨#[], args, []⟩).memory :=
  laidMetH_of_parts3 (fuel := 8) (laidMet_of_run' 8 (by kernel_rfl) (by kernel_rfl)) (by kernel_rfl) (by kernel_rfl)

set_option maxRecDepth 100000 in
theorem lifted (os : Os) (started : os.Started) (H : Type) (enc : TypeId × Value → H) :
    ReturnsInHanded {} Tryd.checked os 4 .any (fun w args => (Rows.lexerFaultsSpec.pre enc Tryd.prog Tryd.f4 [] false w args ∧ laidMetH Tryd.prog [("math/bits.deBruijn32tab", Rows.laid_math_bits_deBruijn32tab), ("math/bits.deBruijn64tab", Rows.laid_math_bits_deBruijn64tab), ("internal/strconv.uint64pow10", Rows.laid_internal_strconv_uint64pow10), ("errors.errorType", Rows.laid_errors_errorType), ("redline/api.ErrRange", Rows.laid_redline_api_ErrRange), ("redline/api.ErrShort", Rows.laid_redline_api_ErrShort), ("redline/api.ErrLong", Rows.laid_redline_api_ErrLong), ("redline/api.ErrVarint", Rows.laid_redline_api_ErrVarint), ("redline/api.ErrTag", Rows.laid_redline_api_ErrTag), ("redline/api.ErrGroup", Rows.laid_redline_api_ErrGroup), ("redline/api.ErrRune", Rows.laid_redline_api_ErrRune), ("redline/api.ErrDepth", Rows.laid_redline_api_ErrDepth), ("redline/api.ErrForm", Rows.laid_redline_api_ErrForm), ("redline/api.ErrName", Rows.laid_redline_api_ErrName), ("redline/api.ErrDup", Rows.laid_redline_api_ErrDup), ("redline/api.ErrKind", Rows.laid_redline_api_ErrKind), ("redline/api.ErrClash", Rows.laid_redline_api_ErrClash), ("redline/api.ErrNone", Rows.laid_redline_api_ErrNone), ("redline/api.ErrFull", Rows.laid_redline_api_ErrFull), ("redline/api.ErrState", Rows.laid_redline_api_ErrState), ("redline/api.ErrPower", Rows.laid_redline_api_ErrPower), ("redline/api.ErrSum", Rows.laid_redline_api_ErrSum), ("redline/api.ErrConflict", Rows.laid_redline_api_ErrConflict), ("strconv.ErrRange", Rows.laid_strconv_ErrRange), ("strconv.ErrSyntax", Rows.laid_strconv_ErrSyntax)] w) ∧ sizedMet enc Tryd.prog Tryd.f4 (OpenSpec.ofChange Rows.lexerFaultsSpec) false w args)
      (Rows.lexerFaultsSpec.post enc Tryd.prog Tryd.f4 false true false false) := by
  refine returnsInHanded_and_shaped (C := Tryd.checked) (X := fun w _ => laidMetH Tryd.prog [("math/bits.deBruijn32tab", Rows.laid_math_bits_deBruijn32tab), ("math/bits.deBruijn64tab", Rows.laid_math_bits_deBruijn64tab), ("internal/strconv.uint64pow10", Rows.laid_internal_strconv_uint64pow10), ("errors.errorType", Rows.laid_errors_errorType), ("redline/api.ErrRange", Rows.laid_redline_api_ErrRange), ("redline/api.ErrShort", Rows.laid_redline_api_ErrShort), ("redline/api.ErrLong", Rows.laid_redline_api_ErrLong), ("redline/api.ErrVarint", Rows.laid_redline_api_ErrVarint), ("redline/api.ErrTag", Rows.laid_redline_api_ErrTag), ("redline/api.ErrGroup", Rows.laid_redline_api_ErrGroup), ("redline/api.ErrRune", Rows.laid_redline_api_ErrRune), ("redline/api.ErrDepth", Rows.laid_redline_api_ErrDepth), ("redline/api.ErrForm", Rows.laid_redline_api_ErrForm), ("redline/api.ErrName", Rows.laid_redline_api_ErrName), ("redline/api.ErrDup", Rows.laid_redline_api_ErrDup), ("redline/api.ErrKind", Rows.laid_redline_api_ErrKind), ("redline/api.ErrClash", Rows.laid_redline_api_ErrClash), ("redline/api.ErrNone", Rows.laid_redline_api_ErrNone), ("redline/api.ErrFull", Rows.laid_redline_api_ErrFull), ("redline/api.ErrState", Rows.laid_redline_api_ErrState), ("redline/api.ErrPower", Rows.laid_redline_api_ErrPower), ("redline/api.ErrSum", Rows.laid_redline_api_ErrSum), ("redline/api.ErrConflict", Rows.laid_redline_api_ErrConflict), ("strconv.ErrRange", Rows.laid_strconv_ErrRange), ("strconv.ErrSyntax", Rows.laid_strconv_ErrSyntax)] w) (fun _ _ _ hh h => h.of_heap hh) own started (by kernel_rfl) Tryd.func4
    (ChangeSpec.witness_shaped (enc := enc) (C := Tryd.checked) (os := os) (X := fun w _ => laidMetH Tryd.prog [("math/bits.deBruijn32tab", Rows.laid_math_bits_deBruijn32tab), ("math/bits.deBruijn64tab", Rows.laid_math_bits_deBruijn64tab), ("internal/strconv.uint64pow10", Rows.laid_internal_strconv_uint64pow10), ("errors.errorType", Rows.laid_errors_errorType), ("redline/api.ErrRange", Rows.laid_redline_api_ErrRange), ("redline/api.ErrShort", Rows.laid_redline_api_ErrShort), ("redline/api.ErrLong", Rows.laid_redline_api_ErrLong), ("redline/api.ErrVarint", Rows.laid_redline_api_ErrVarint), ("redline/api.ErrTag", Rows.laid_redline_api_ErrTag), ("redline/api.ErrGroup", Rows.laid_redline_api_ErrGroup), ("redline/api.ErrRune", Rows.laid_redline_api_ErrRune), ("redline/api.ErrDepth", Rows.laid_redline_api_ErrDepth), ("redline/api.ErrForm", Rows.laid_redline_api_ErrForm), ("redline/api.ErrName", Rows.laid_redline_api_ErrName), ("redline/api.ErrDup", Rows.laid_redline_api_ErrDup), ("redline/api.ErrKind", Rows.laid_redline_api_ErrKind), ("redline/api.ErrClash", Rows.laid_redline_api_ErrClash), ("redline/api.ErrNone", Rows.laid_redline_api_ErrNone), ("redline/api.ErrFull", Rows.laid_redline_api_ErrFull), ("redline/api.ErrState", Rows.laid_redline_api_ErrState), ("redline/api.ErrPower", Rows.laid_redline_api_ErrPower), ("redline/api.ErrSum", Rows.laid_redline_api_ErrSum), ("redline/api.ErrConflict", Rows.laid_redline_api_ErrConflict), ("strconv.ErrRange", Rows.laid_strconv_ErrRange), ("strconv.ErrSyntax", Rows.laid_strconv_ErrSyntax)] w) false (World.doorLaid Tryd.prog 4000 os) #[.int .i64 0, .int .i64 0, .int .i64 0] 8 rfl (World.shaped_of_RefB (by kernel_rfl) (by kernel_rfl)) (by kernel_rfl) (by kernel_rfl) (by kernel_rfl) (door_met os _)) ?_
  intro W base args ds gs before hval0 hW _ _ hL hsh _
  have hval : ∀ (j : Nat) t v, Tryd.f4.params[j]? = some t → args[j]? = some v → Value.okWide Tryd.prog W .any base t v := hval0
  have hW' := hW
  obtain ⟨p, q, hA0, hV, rfl, hfz, hnd⟩ := hW
  have hA : DataW.TrodAll enc Tryd.prog W 0 (fun _ => true) true Tryd.f4.params.toList args.toList ds p := hA0
  rw [Tryd.params4] at hA hval
  obtain ⟨v0, vs0, d0, ds0, p0, q0, hargs, rfl, rfl, h0, r0⟩ := trodAll_cons hA
  obtain ⟨v1, vs1, d1, ds1, p1, q1, rfl, rfl, rfl, h1, r1⟩ := trodAll_cons r0
  obtain ⟨v2, vs2, d2, ds2, p2, q2, rfl, rfl, rfl, h2, r2⟩ := trodAll_cons r1
  obtain ⟨rfl, rfl, rfl⟩ := trodAll_nil r2
  obtain rfl : args = #[v0, v1, v2] := by cases args; simp_all
  obtain ⟨rfl, rfl⟩ := trodVars_none hV
  have k0 := h0
  have lt0 : ∀ x ∈ p0, x.block < W.heap.size := by obtain ⟨m, hm⟩ := k0; exact DataW.trod_lt m _ _ _ hm
  obtain ⟨a0, e0, ed0, ep0, w0⟩ := open_int Tryd.underlying3 (hval 0 3 v0 rfl rfl) h0
  subst e0
  have k1 := h1
  have lt1 : ∀ x ∈ p1, x.block < W.heap.size := by obtain ⟨m, hm⟩ := k1; exact DataW.trod_lt m _ _ _ hm
  obtain ⟨a1, e1, ed1, ep1, w1⟩ := open_int Tryd.underlying3 (hval 1 3 v1 rfl rfl) h1
  subst e1
  have k2 := h2
  have lt2 : ∀ x ∈ p2, x.block < W.heap.size := by obtain ⟨m, hm⟩ := k2; exact DataW.trod_lt m _ _ _ hm
  obtain ⟨a2, e2, ed2, ep2, w2⟩ := open_int Tryd.underlying3 (hval 2 3 v2 rfl rfl) h2
  subst e2
  clear hA0 hval0
  refine (lexerFaults_walk W (of_laid hL hsh) a0 w0 a1 w1 a2 w2).mono fun e W' ⟨he, bel⟩ => ?_
  subst he
  exact ⟨_, rfl, _, _, _, [], _, [], hW', trodAll_mk1 (shut_bool Tryd.underlying4 _), (trodAll_cons_mk (Below.trod laidOut (by kernel_rfl) (of_decide_eq_true (by kernel_rfl)) k0 bel lt0) (trodAll_cons_mk (Below.trod laidOut (by kernel_rfl) (of_decide_eq_true (by kernel_rfl)) k1 bel lt1) (trodAll_cons_mk (Below.trod laidOut (by kernel_rfl) (of_decide_eq_true (by kernel_rfl)) k2 bel lt2) trodAll_mk0))), rfl, bel.frame _, fun h => by cases h⟩

theorem over : Rows.lexerFaultsRow.holds Tryd.pinned (OpenSpec.ofChange Rows.lexerFaultsSpec) :=
  OpenClaim.holds_of_wide 4 Tryd.f4 rfl rfl rfl rfl rfl rfl rfl ⟨rfl, rfl, rfl, rfl, rfl⟩ rfl rfl rfl rfl rfl (by kernel_rfl) Tryd.func4 (by kernel_rfl)
    (of_decide_eq_true (by kernel_rfl)) (by unfold Func.isWrapper; first | (rw [if_pos (by decide +kernel)]; kernel_rfl) | (rw [if_neg (by decide +kernel)]; exact ⟨rfl, rfl⟩))
    (fun os started H enc _ => lifted os started H enc)

theorem card_over : Claim7.holds Tryd.pinned (.plain (OpenSpec.ofChange Rows.lexerFaultsSpec)) Rows.lexerFaultsCard :=
  Claim7.holds_tied_plain_at .later [] [.data, .data, .data, .handle, .sentinel, .sentinel, .sentinel, .sentinel, .sentinel, .sentinel, .sentinel, .sentinel, .sentinel, .sentinel, .sentinel, .sentinel, .sentinel, .sentinel, .sentinel, .sentinel, .sentinel, .sentinel, .sentinel, .sentinel, .sentinel] true (true, "d6f15038753025a762449e79c51a008f3233cd98ef675544e8d0cda03763affd") true
    over (fun _ h => by cases h) (by kernel_rfl) (fun _ h => by cases h) lexerFaults_row_tie rfl ⟨rfl, rfl⟩ (by kernel_rfl) rfl
    (fun f fn hf hfn => by
      obtain rfl : f = 4 := Option.some.inj ((show Tryd.prog.funcNamed "redline/redlinelaw07.LexerFaults" = some 4 by kernel_rfl).symm.trans hf) |>.symm
      obtain rfl : fn = Tryd.f4 := (Option.some.inj (Tryd.func4.symm.trans hfn)).symm
      exact ⟨by kernel_rfl, fun j t ht => by
        rw [Tryd.params4] at ht
        have hm : t ∈ [3, 3, 3] := by simpa using Array.mem_of_getElem? ht
        have hall : ([3, 3, 3].all fun u => !Tryd.prog.wantsStandIn u) = true := by kernel_rfl
        exact (show Tryd.prog.wantsStandIn t = false by simpa using List.all_eq_true.1 hall t hm)⟩)
    (by kernel_rfl)

end Go.Proofs.YtiopcdbginnflaaDoor.lexerFaultsFrame

namespace Go.Proofs.YtiopcdbginnflaaDoor
theorem lexerFaults_holds : Rows.LexerFaultsCardSaid := lexerFaultsFrame.card_over
#print axioms lexerFaults_holds
end Go.Proofs.YtiopcdbginnflaaDoor
