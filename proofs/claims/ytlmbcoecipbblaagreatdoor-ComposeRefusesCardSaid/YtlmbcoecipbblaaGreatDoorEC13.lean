/- compose.Of, by the engine. -/
import Derived.Test.YtlmbcoecipbblaaGreatDoorGpP
set_option maxRecDepth 100000
set_option maxHeartbeats 8000000
set_option linter.unusedVariables false
set_option linter.unusedSimpArgs false
namespace Go.Proofs.YtlmbcoecipbblaaGreatDoor
open Go.RowKit
open Val (V E right cmp eright ado Res avalue esm esmF esmS esmK vmx esz eszF eszS eszK e0 swapE swapF PairP inv)
noncomputable def ofA (er : Errs) (d e : E) : Res E := if eright d = true ∧ eright e = true then (match prC er 17 d e with
  | .bad b => .bad b
  | .ok x => if eright x = true then (if 65536 < szE x then .bad 3 else .ok x) else .bad 12) else .bad 9
def ENr (er : Errs) (lg : Value) : Res E → List DV → DV → Prop
 | .ok x, c, ev => c = encE x ∧ ev = .lit .nilIface
 | .bad b, c, ev => c = zEd ∧ ev = .lit (if b = 3 then lg else er.of b)
def gO (er : Errs) (lg : Value) : List (Nat × List DV) := (2, [.lit lg]) :: gE er
theorem en_ex (er : Errs) (lg : Value) (r : Res E) : ∃ c ev, ENr er lg r c ev := by
 cases r with
 | bad n => exact ⟨_, _, rfl, rfl⟩
 | ok x => exact ⟨_, _, rfl, rfl⟩
theorem cof_run (er : Errs) (lg : Value) (hlg : litB lg = true) (d e : E) (hmd : esm d) (hme : esm e) (hsz : esz d + esz e ≤ 30000) : ∃ c ev, ENr er lg (ofA er d e) c ev ∧ ∀ dc ec, dc = encE d → ec = encE e → ∀ fr,
  PRun Tryz.prog (gO er lg) 7 [.agg (cellsP 21 dc), .agg (cellsP 21 ec)] [] fr (.tup [.agg (cellsP 21 c), .d fun _ => ev]) [] := by
 obtain ⟨c, ev, HR⟩ := en_ex er lg (ofA er d e)
 refine ⟨c, ev, HR, fun dc ec hd he fr => ?_⟩
 have HD := fun fr => eright_run (G := gO er lg) hd hmd fr
 have HE := fun fr => eright_run (G := gO er lg) he hme fr
 refine PRun.pure (xs := [.agg (cellsP 21 dc), .agg (cellsP 21 ec)]) (r1 := .tup [.agg (cellsP 21 c), .d fun _ => ev]) tI_ok (by kernel_rfl) Tryz.func7 rfl rfl (by kernel_rfl) ?_
 by_cases rd : eright d = true
 rotate_left
 ·rw [ofA, if_neg (fun h => rd h.1)] at HR
  have rd : eright d = false := by simpa using rd
  rw [rd] at HD
  obtain ⟨hc, hv⟩ : c = zEd ∧ ev = .lit er.f := HR
  repeat with_reducible refine jR trivial ?_
  (with_reducible apply hCall); exact HD _; with_reducible refine jR trivial ?_
  repeat with_reducible refine jR trivial ?_
  with_reducible refine jE trivial ?_
  subst hc hv
  and_intros <;> exact LeD.of rfl
 rw [rd] at HD
 by_cases re : eright e = true
 rotate_left
 ·rw [ofA, if_neg (fun h => re h.2)] at HR
  have re : eright e = false := by simpa using re
  rw [re] at HE
  obtain ⟨hc, hv⟩ : c = zEd ∧ ev = .lit er.f := HR
  repeat with_reducible refine jR trivial ?_
  (with_reducible apply hCall); exact HD _; with_reducible refine jR trivial ?_
  repeat with_reducible refine jR trivial ?_
  (with_reducible apply hCall); exact HE _; with_reducible refine jR trivial ?_
  repeat with_reducible refine jR trivial ?_
  with_reducible refine jE trivial ?_
  subst hc hv
  and_intros <;> exact LeD.of rfl
 rw [re] at HE
 rw [ofA, if_pos ⟨rd, re⟩] at HR
 obtain ⟨hp, pc, pe, h2, H2⟩ := prC_ok (co_all er _ d e (Nat.lt_succ_self _) ⟨rd, re, hmd, hme, hsz⟩)
 have H2 := fun fr => (H2 dc ec hd he fr).more (G' := gO er lg) (fun x hx => List.mem_cons_of_mem _ hx)
 obtain ⟨b2, q2, y2, n2⟩ := re_nil h2
 repeat with_reducible refine jR trivial ?_
 (with_reducible apply hCall); exact HD _; with_reducible refine jR trivial ?_
 repeat with_reducible refine jR trivial ?_
 (with_reducible apply hCall); exact HE _; with_reducible refine jR trivial ?_
 repeat with_reducible refine jR trivial ?_
 (with_reducible apply hCall); exact H2 _; with_reducible refine jR q2 ?_
 refine ⟨fun hb2 => ?_, fun hb2 => ?_⟩
 ·obtain ⟨n, hr, hve⟩ := y2 hb2
  have hn : ¬ n = 3 := by have := hp.1 n hr; omega
  simp only [hr] at HR
  obtain ⟨hc, hv⟩ : c = zEd ∧ ev = .lit (er.of n) := ⟨HR.1, by rw [HR.2, if_neg hn]⟩
  repeat with_reducible refine jR trivial ?_
  with_reducible refine jE trivial ?_
  subst hc hv
  and_intros <;> first | exact LeD.of rfl | exact LeD.of hve
 obtain ⟨x, hr, hx, _⟩ := n2 hb2
 have hpx := hp.2 x hr
 simp only [hr] at HR
 have HX := fun fr => eright_run (G := gO er lg) hx hpx.1 fr
 by_cases rx : eright x = true
 rotate_left
 ·rw [if_neg rx] at HR
  have rx : eright x = false := by simpa using rx
  rw [rx] at HX
  obtain ⟨hc, hv⟩ : c = zEd ∧ ev = .lit er.k := HR
  repeat with_reducible refine jR trivial ?_
  (with_reducible apply hCall); exact HX _; with_reducible refine jR trivial ?_
  repeat with_reducible refine jR trivial ?_
  with_reducible refine jE trivial ?_
  subst hc hv
  and_intros <;> exact LeD.of rfl
 rw [rx] at HX
 rw [if_pos rx] at HR
 have HS := esize_all (esz x + 1) x (Nat.lt_succ_self _) (by have := hpx.2; omega) (gO er lg) pc hx
 rw [show szEn (esz x + 1) x = szE x from rfl] at HS
 by_cases lx : 65536 < szE x
 ·rw [if_pos lx] at HR
  obtain ⟨hc, hv⟩ : c = zEd ∧ ev = .lit lg := HR
  repeat with_reducible refine jR trivial ?_
  (with_reducible apply hCall); exact HX _; with_reducible refine jR trivial ?_
  repeat with_reducible refine jR trivial ?_
  (with_reducible apply hCall); exact HS _; with_reducible refine jR (eq_T lx) ?_
  repeat with_reducible refine jR trivial ?_
  with_reducible refine jE trivial ?_
  subst hc hv
  and_intros <;> exact LeD.of rfl
 ·rw [if_neg lx] at HR
  obtain ⟨hc, hv⟩ : c = pc ∧ ev = .lit .nilIface := ⟨HR.1.trans hx.symm, HR.2⟩
  repeat with_reducible refine jR trivial ?_
  (with_reducible apply hCall); exact HX _; with_reducible refine jR trivial ?_
  repeat with_reducible refine jR trivial ?_
  (with_reducible apply hCall); exact HS _; with_reducible refine jR lx ?_
  repeat with_reducible refine jR trivial ?_
  with_reducible refine jE trivial ?_
  subst hc hv
  simp only [eS]
end Go.Proofs.YtlmbcoecipbblaaGreatDoor
