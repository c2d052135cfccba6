/- compose.pair, by the engine: given into, row and book. -/
import Derived.Test.YtlmbcoecipbblaaGreatDoorGpN
set_option maxRecDepth 100000
set_option maxHeartbeats 8000000
set_option linter.unusedVariables false
set_option linter.unusedSimpArgs false
namespace Go.Proofs.YtlmbcoecipbblaaGreatDoor
open Go.RowKit
open Val (V E right cmp eright ado Res avalue esm esmF esmS esmK vmx esz eszF eszS eszK e0 swapE swapF PairP inv)
def CoE (er : Errs) (fn : FuncId) (d e : E) : Prop := ∃ r c ev, PairP d e r ∧ (d.kind = 1 → ¬ e.kind = 0 → r = swapF d e d.new) ∧ EEr er r c ev ∧
 ∀ dc ec, dc = encE d → ec = encE e → ∀ fr, PRun Tryz.prog (gE er) fn [.agg (cellsP 21 dc), .agg (cellsP 21 ec)] [] fr (.tup [.agg (cellsP 21 c), .d fun _ => ev]) []
structure CoGood (d e : E) : Prop where
 rd : eright d = true
 re : eright e = true
 md : esm d
 me : esm e
 sz : esz d + esz e ≤ 30000
theorem Val.eright_kinds (d : E) (h : eright d = true) : d.kind = 0 ∨ d.kind = 1 ∨ d.kind = 2 ∨ d.kind = 3 ∨ d.kind = 4 := by
 obtain ⟨k, o, n, f, r, ro, rn, s, ks⟩ := d
 rw [eright, Bool.and_eq_true] at h
 show k = 0 ∨ k = 1 ∨ k = 2 ∨ k = 3 ∨ k = 4
 have h2 := h.2
 by_cases h0 : k = 0
 ·exact .inl h0
 by_cases h1 : k = 1
 ·exact .inr (.inl h1)
 by_cases h3 : k = 2
 ·exact .inr (.inr (.inl h3))
 by_cases h4 : k = 3
 ·exact .inr (.inr (.inr (.inl h4)))
 by_cases h5 : k = 4
 ·exact .inr (.inr (.inr (.inr h5)))
 rw [if_neg h0, if_neg h1, if_neg h3, if_neg h4, if_neg h5] at h2
 cases h2
theorem old_cells {x : E} {xc : List DV} (h : xc = encE x) : ((List.range 7).map fun i => (.d fun _ => cellAt xc (i + 1) : PV)) = cellsP 7 (encV x.old) := cells_as (f := fun i => cellAt xc (i + 1)) (fun i hi => by subst h; exact (cE x).2.1 i hi)
theorem new_cells {x : E} {xc : List DV} (h : xc = encE x) : ((List.range 7).map fun i => (.d fun _ => cellAt xc (i + 8) : PV)) = cellsP 7 (encV x.new) := cells_as (f := fun i => cellAt xc (i + 8)) (fun i hi => by subst h; exact (cE x).2.2.1 i hi)
theorem re_one {er : Errs} {r : Res E} {c c' : List DV} {ev ev' : DV} (h : EEr er r c ev) (h' : EEr er r c' ev') : c = c' ∧ ev = ev' := by
 cases r with
 | bad b => exact ⟨h.1.trans h'.1.symm, h.2.trans h'.2.symm⟩
 | ok x => exact ⟨h.1.trans h'.1.symm, h.2.trans h'.2.symm⟩
theorem pair_run (er : Errs) (d e : E) (hg : CoGood d e) (h2 : d.kind = 2 → e.kind = 2 → CoE er 65 d e) (h3 : d.kind = 3 → e.kind = 3 → CoE er 66 d e) (h4 : d.kind = 4 → e.kind = 4 → CoE er 67 d e) : CoE er 17 d e := by
 have Hmd : esm (inv d) := Val.inv_esm d hg.md
 have hpd := Val.esz_parts d; have hpe := Val.esz_parts e; have hsz := hg.sz
 have start : ∀ (c : List DV) (ev : DV), (∀ dc ec, dc = encE d → ec = encE e → holds Tryz.prog (gE er) (PWl Tryz.prog (gE er) Tryz.f17.ntmps) (evF tI (gE er) Tryz.f17 (Tryz.f17.body.getD .skip) [.agg (cellsP 21 dc), .agg (cellsP 21 ec)] [] 0) (fun x => ∃ l fz os, holds Tryz.prog (gE er) (PWl Tryz.prog (gE er) Tryz.f17.ntmps) (cln l fz os ⟨[(0, .tup [.agg (cellsP 21 c), .d fun _ => ev])], [], 0, 0⟩ { x.2 with t := [(0, x.1)] }) (fun _ => True))) →
   ∀ dc ec, dc = encE d → ec = encE e → ∀ fr, PRun Tryz.prog (gE er) 17 [.agg (cellsP 21 dc), .agg (cellsP 21 ec)] [] fr (.tup [.agg (cellsP 21 c), .d fun _ => ev]) [] := fun c ev h dc ec hd he fr =>
  PRun.pure (xs := [.agg (cellsP 21 dc), .agg (cellsP 21 ec)]) (r1 := .tup [.agg (cellsP 21 c), .d fun _ => ev]) tI_ok (by kernel_rfl) Tryz.func17 rfl rfl (by kernel_rfl) (h dc ec hd he)
 have D0 : ∀ dc, dc = encE d → cellAt dc 0 = .lit (.int .i64 d.kind) := fun dc h => by rw [h]; exact (cE d).1
 have E0 : ∀ dc, dc = encE e → cellAt dc 0 = .lit (.int .i64 e.kind) := fun dc h => by rw [h]; exact (cE e).1
 by_cases d0 : d.kind = 0
 ·obtain ⟨c, hc⟩ : ∃ c, c = encE e := ⟨_, rfl⟩
  refine ⟨.ok e, c, .lit .nilIface, Val.pair_same d e hg.me, fun h => (by rw [d0] at h; cases h), ⟨hc, rfl⟩, start _ _ (fun dc ec hd he => ?_)⟩
  have q := cellQ (D0 dc hd)
  repeat with_reducible refine jR (J2 q d0) ?_
  refine ⟨[], [], [], ?_⟩
  with_reducible refine jR trivial ?_
  simp only [he.trans hc.symm, eS]
 by_cases e0 : e.kind = 0
 ·obtain ⟨c, hc⟩ : ∃ c, c = encE d := ⟨_, rfl⟩
  refine ⟨.ok d, c, .lit .nilIface, Val.pair_same' d e hg.md, fun _ h => absurd e0 h, ⟨hc, rfl⟩, start _ _ (fun dc ec hd he => ?_)⟩
  have q := cellQ (D0 dc hd)
  have r := cellQ (E0 ec he)
  repeat with_reducible refine jR (J4 q r d0 e0) ?_
  refine ⟨[], [], [], ?_⟩
  with_reducible refine jR trivial ?_
  simp only [hd.trans hc.symm, eS]
 by_cases d1 : d.kind = 1
 ·obtain ⟨c, ev, hR, _⟩ := swapped_run er (rfl : encE d = _) (rfl : encE e = _) (rfl : encV d.new = _) hg.rd Hmd hg.me (by omega)
  refine ⟨swapF d e d.new, c, ev, Val.swapF_pair d e _ (by omega), fun _ _ => rfl, hR, start _ _ (fun dc ec hd he => ?_)⟩
  obtain ⟨c', ev', hR', H⟩ := swapped_run er hd he (rfl : encV d.new = _) hg.rd Hmd hg.me (by omega)
  obtain ⟨rfl, rfl⟩ := re_one hR hR'
  rw [← new_cells hd] at H
  have q := cellQ (D0 dc hd)
  have r := cellQ (E0 ec he)
  repeat with_reducible refine jR (J5 q r d0 e0 (eq_T d1)) ?_
  (with_reducible apply hCall); exact H _; with_reducible refine jR trivial ?_
  refine ⟨[], [], [], ?_⟩
  with_reducible refine jR trivial ?_
  trivial
 by_cases e1 : e.kind = 1
 ·obtain ⟨c, ev, hR, _⟩ := swapped_run er (rfl : encE d = _) (rfl : encE e = _) (rfl : encV e.old = _) hg.rd Hmd hg.me (by omega)
  refine ⟨swapF d e e.old, c, ev, Val.swapF_pair d e _ (by omega), fun h => absurd h d1, hR, start _ _ (fun dc ec hd he => ?_)⟩
  obtain ⟨c', ev', hR', H⟩ := swapped_run er hd he (rfl : encV e.old = _) hg.rd Hmd hg.me (by omega)
  obtain ⟨rfl, rfl⟩ := re_one hR hR'
  rw [← old_cells he] at H
  have q := cellQ (D0 dc hd)
  have r := cellQ (E0 ec he)
  repeat with_reducible refine jR (J6 q r d0 e0 d1 (eq_T e1)) ?_
  (with_reducible apply hCall); exact H _; with_reducible refine jR trivial ?_
  refine ⟨[], [], [], ?_⟩
  with_reducible refine jR trivial ?_
  trivial
 by_cases de : ¬ d.kind = e.kind
 ·obtain ⟨c, ev, hR, H⟩ := apart_run er (rfl : encE d = _) (rfl : encE e = _) hg.rd Hmd hg.me (by omega)
  refine ⟨_, c, ev, Val.swapF_pair d e _ (by rw [Val.vmx_v0]; exact Nat.zero_le _), fun h => absurd h d1, hR, start _ _ (fun dc ec hd he => ?_)⟩
  rw [← hd, ← he] at H
  have q := cellQ (D0 dc hd)
  have r := cellQ (E0 ec he)
  repeat with_reducible refine jR (J7 q r d0 e0 d1 e1 de) ?_
  (with_reducible apply hCall); exact H _; with_reducible refine jR trivial ?_
  refine ⟨[], [], [], ?_⟩
  with_reducible refine jR trivial ?_
  trivial
 have de := Classical.not_not.1 de
 have last : ∀ f : FuncId, f = (if d.kind = 2 then 65 else if d.kind = 3 then 66 else 67) → CoE er f d e → CoE er 17 d e := fun f hf ⟨R, c, ev, hp, hs, hR, H⟩ => by
  refine ⟨R, c, ev, hp, hs, hR, start _ _ (fun dc ec hd he => ?_)⟩
  have q := cellQ (D0 dc hd)
  have r := cellQ (E0 ec he)
  have Hof : ∀ fr, PRun Tryz.prog (gE er) 38 [.d fun _ => cellAt dc 0] [] fr (.fn (.func f) [] []) [] := fun fr => by rw [hf, D0 dc hd]; exact of_run d.kind fr
  repeat with_reducible refine jR (J7 q r d0 e0 d1 e1 (eq_T de)) ?_
  (with_reducible apply hCall); exact Hof _; with_reducible refine jR trivial ?_
  (with_reducible apply hCall); exact H dc ec hd he _; with_reducible refine jR trivial ?_
  refine ⟨[], [], [], ?_⟩
  with_reducible refine jR trivial ?_
  trivial
 rcases Val.eright_kinds d hg.rd with h | h | h | h | h
 ·exact absurd h d0
 ·exact absurd h d1
 ·exact last _ (by rw [if_pos h]) (h2 h (de ▸ h))
 ·exact last _ (by rw [if_neg (by omega), if_pos h]) (h3 h (de ▸ h))
 ·exact last _ (by rw [if_neg (by omega), if_neg (by omega)]) (h4 h (de ▸ h))
end Go.Proofs.YtlmbcoecipbblaaGreatDoor
