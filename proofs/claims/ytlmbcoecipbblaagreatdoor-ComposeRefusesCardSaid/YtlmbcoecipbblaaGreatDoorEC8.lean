/- compose.row, by the engine: given pair. -/
import Derived.Test.YtlmbcoecipbblaaGreatDoorEC7
set_option maxRecDepth 100000
set_option maxHeartbeats 8000000
set_option linter.unusedVariables false
set_option linter.unusedSimpArgs false
namespace Go.Proofs.YtlmbcoecipbblaaGreatDoor
open Go.RowKit
open Val (V E right cmp eright ado Res avalue esm esmF esmS esmK vmx esz eszF eszS eszK e0 swapE swapF PairP inv)
theorem cK {s : Stp} {k : Int} (r : List Stp) (h : s.1 = k) : curK (s :: r) = k := h
theorem nK {s : Stp} {k : Int} (r : List Stp) (h : ¬ s.1 = k) : ¬ curK (s :: r) = k := h
theorem nK2 : ¬ curK [] = 2 := by decide
theorem nK3 : ¬ curK [] = 3 := by decide
structure RX (er : Errs) (d e : E) (R : Res (List Stp)) where
 b : Bool
 n : Nat
 fs : List Stp
 k : Int
 gs : List Stp
 j : Int
 out : List Stp
 fl : List (List DV)
 gl : List (List DV)
 ol : List (List DV)
 hf : fl = encES fs
 hg : gl = encES gs
 ho : ol = encES out
 hb : b = false → out = []
 hr : rowL (prC er 17) n fs k gs j out = R
 hc : CRow er d e fs k gs j out
 hm : leftC fs k + leftC gs j < n
def rowS (b : Bool) (fl : List (List DV)) (k : Int) (gl : List (List DV)) (j : Int) (ol : List (List DV)) : Go.Proofs.YtlmbcoecipbblaaGreatDoor.St := ⟨[(4, .ptr 0 0), (5, .d fun _ => .lit .nilIface), (6, if b then .own 3 4 else .d fun _ => .lit (.slice none 0 0)), (7, .ptr 1 0), (8, .ptr 2 0)],
 [(0, .blk (List.replicate 21 .dead)), (1, curB fl k), (2, curB gl j)] ++ (if b then [(3, .row 4 81 30 fun _ => ol)] else []), 5, 0⟩
def rowQ (ol : List (List DV)) : Go.Proofs.YtlmbcoecipbblaaGreatDoor.St := ⟨[(4, .ptr 0 0), (5, .d fun _ => .lit .nilIface), (6, .d fun _ => .sl ol)], [(0, .blk (List.replicate 21 .dead))], 1, 0⟩
theorem CRow.len {er : Errs} {d e : E} {fs gs out : List Stp} {k j : Int} (h : CRow er d e fs k gs j out) (hs : eszS d.steps + eszS e.steps ≤ 30000) : out.length ≤ 90000 := by
 have h1 := h.sz; have h2 := eszS_length out; omega
theorem encES_app : ∀ a b : List Stp, encES (a ++ b) = encES a ++ encES b
 | [], b => by rw [encES]; rfl
 | (n, c, v, e) :: r, b => by rw [List.cons_append, encES, encES, encES_app r b]; rfl
theorem le_bytess {out : List Stp} {ol : List (List DV)} {p : Nat} (h : out.length ≤ 90000) (h1 : ol = encES out) (h2 : p ≤ 1) : (ol.length + p) * 496 ≤ 140737488355328 := by rw [h1, encES_length]; omega
theorem le_bytes0 {p : Nat} (h2 : p ≤ 1) : p * 496 ≤ 140737488355328 := by omega
theorem row_end1 {out o : List Stp} {ol ol2 E : List (List DV)} (ho : ol = encES out) (h2 : ol2 = encES (out ++ o)) (hE : LeR E (encES o)) : LeR (ol ++ E) ol2 := by rw [h2, encES_app, ho]; exact LeR.app (LeR.of rfl) hE
theorem row_end0 {out o : List Stp} {ol2 E : List (List DV)} (ho : out = []) (h2 : ol2 = encES (out ++ o)) (hE : LeR E (encES o)) : LeR E ol2 := by rw [h2, ho]; exact hE
theorem step_is {c : List DV} {s : Stp} (h : c = stC s) : LeR (elemsV [(List.range 30).map fun i => fun _ => cellAt c i]) (encES [s]) := LeR.of (by rw [encES_one, ← h]; exact cells_all (by rw [h]; exact stC_len s))
theorem next_run' {G : List (Nat × List DV)} (b : Nat) {s : Stp} {r : List Stp} {l : List (List DV)} (hl : l = encES (s :: r)) {k : Int} (hc : Cur (s :: r) k) (c : List DV) (hcc : c = stC (one1 s)) (l2 : List (List DV)) (k2 : Int) (hl2 : l2 = encES (nextC (s :: r) k).1) (hk2 : k2 = (nextC (s :: r) k).2) (fr : List Nat) :
  PRun Tryz.prog G 86 [.ptr b 0] [(b, curB l k)] fr (.agg (cellsP 30 c)) [(b, curB l2 k2)] := by
 subst hk2
 refine next_run b hl hc.k0 ?_ c hcc l2 hl2 fr
 rcases hc.kn with h | ⟨s', r', e, h1, h2⟩
 ·omega
 ·cases e; have := (hc.ok s (List.mem_cons_self ..)).keep h1; omega
theorem skip_run' {G : List (Nat × List DV)} (b : Nat) {s : Stp} {r : List Stp} {l : List (List DV)} (hl : l = encES (s :: r)) {k n : Int} (hc : Cur (s :: r) k) (h1 : s.1 = 1) (hn : 0 < n) (hn2 : n ≤ s.2.1 - k) (l2 : List (List DV)) (k2 : Int) (hl2 : l2 = encES (skipC (s :: r) k n).1) (hk2 : k2 = (skipC (s :: r) k n).2) (fr : List Nat) :
  PRun Tryz.prog G 84 [.ptr b 0, .d fun _ => .lit (.int .i64 n)] [(b, curB l k)] fr (.tup []) [(b, curB l2 k2)] := by
 subst hk2
 have := (hc.ok s (List.mem_cons_self ..)).keep h1
 exact skip_run b hl hc.k0 (by omega) (by omega) l2 hl2 fr
theorem lenD1 (a : List DV) : ((([a].length : Nat) : Int) = 1) = True := by simp
theorem lenD2 (a b : List DV) (l : List (List DV)) : ((((a :: b :: l).length : Nat) : Int) = 1) = False := by simp; omega
theorem one1_B {s : Stp} (h : StpB s) : StpB (one1 s) := by
 unfold one1
 split
 ·rename_i h1; exact ⟨.inl ⟨h1, Int.le_refl 1, (show (1 : Int) ≤ 1048576 by decide)⟩, h.2⟩
 ·exact h
theorem by_run (er : Errs) {s t : Stp} (hs : StpB s) (ht : StpB t) (hs2 : ¬ s.1 = 2) (ht3 : ¬ t.1 = 3) (hb : vmx s.2.2.1 + esz s.2.2.2 + (vmx t.2.2.1 + esz t.2.2.2) ≤ 30000) (hco : s.1 = 4 → t.1 = 4 → CoE er 17 s.2.2.2 t.2.2.2) :
  ∃ fn c ev, (if s.1 = 3 then 94 else if s.1 = 4 then 95 else 96) = fn ∧ SRr er (afterC (prC er 17) s t) c ev ∧ ∀ sc tc, sc = stC s → tc = stC t → ∀ fr, PRun Tryz.prog (gE er) fn [.agg (cellsP 30 sc), .agg (cellsP 30 tc)] [] fr (.tup [.d fun _ => c, .d fun _ => ev]) [] := by
 by_cases s3 : s.1 = 3
 ·obtain ⟨c, ev, h1, h2⟩ := put_run er s3 ht.2 (by omega) (prC er 17)
  exact ⟨_, c, ev, by rw [if_pos s3], h1, h2⟩
 by_cases s4 : s.1 = 4
 ·have he1 : eright s.2.2.2 = true := by rcases hs.1 with h | h | h | h <;> first | (exact h.2) | (rw [s4] at h; exact absurd h.1 (by decide))
  obtain ⟨c, ev, h1, h2⟩ := change_run er s4 he1 hs.2 (by omega) (fun h1 h2 => hco s4 (by rcases ht.1 with h | h | h | h <;> first | (exact h.1) | exact absurd h.1 (by assumption)))
  exact ⟨_, c, ev, by rw [if_neg s3, if_pos s4], h1, h2⟩
 ·refine ⟨_, .sl (encES [t]), .lit .nilIface, by rw [if_neg s3, if_neg s4], ?_, fun sc tc h1 h2 fr => keep_run er h1 h2 _ rfl fr⟩
  unfold afterC; rw [if_neg s3, if_neg s4]; exact ⟨rfl, rfl⟩
theorem row_run (er : Errs) (d e : E) (hg : CoGood d e) (n0 : Nat) (hn0 : leftC d.steps 0 + leftC e.steps 0 < n0) (R : Res (List Stp)) (hR : rowL (prC er 17) n0 d.steps 0 e.steps 0 [] = R) (hC : CRow er d e d.steps 0 e.steps 0 [])
  (c : List DV) (ea : DV) (HR : EEr er (rowA R) c ea) (dc ec : List DV) (hd : dc = encE d) (he : ec = encE e) (fr : List Nat) :
  PRun Tryz.prog (gE er) 66 [.agg (cellsP 21 dc), .agg (cellsP 21 ec)] [] fr (.tup [.agg (cellsP 21 c), .d fun _ => ea]) [] := by
 obtain ⟨fl0, hfl0⟩ : ∃ l, l = encES d.steps := ⟨_, rfl⟩
 obtain ⟨gl0, hgl0⟩ : ∃ l, l = encES e.steps := ⟨_, rfl⟩
 have D19 : cellAt dc 19 = .sl fl0 := by rw [hd, hfl0]; exact (cE d).2.2.2.2.2.2.2.1
 have E19 : cellAt ec 19 = .sl gl0 := by rw [he, hgl0]; exact (cE e).2.2.2.2.2.2.2.1
 have hsz : eszS d.steps + eszS e.steps ≤ 30000 := by have h3 := (Val.esz_parts d).2.2.2.1; have h4 := (Val.esz_parts e).2.2.2.1; have h5 := hg.sz; omega
 refine PRun.pure (xs := [.agg (cellsP 21 dc), .agg (cellsP 21 ec)]) (r1 := .tup [.agg (cellsP 21 c), .d fun _ => ea]) tI_ok (by kernel_rfl) Tryz.func66 rfl rfl (by kernel_rfl) ?_
 with_reducible refine jR trivial ?_
 refine hLoop (loop_okC (ι := RX er d e R) tI_ok (by kernel_rfl) (fun x => rowS x.b x.fl x.k x.gl x.j x.ol) (fun x => x.n)
  ⟨false, n0, d.steps, 0, e.steps, 0, [], fl0, gl0, [], hfl0, hgl0, by rw [encES], fun _ => rfl, hR, hC, hn0⟩ ?_ (fun x => ?_))
 ·with_reducible refine jR (J2 D19 E19) ?_
  exact ⟨LeD.of rfl, LeD.of rfl⟩
 obtain ⟨b, n, fs, k, gs, j, out, fl, gl, ol, hf, hg, ho, hb, hr, hc, hm⟩ := x
 show holds _ _ _ (ev tI (gE er) _ _ (rowS b fl k gl j ol)) _
 obtain ⟨n, rfl⟩ : ∃ m, n = m + 1 := ⟨n - 1, by omega⟩
 have hlen := hc.len hsz
 clear hfl0 hgl0 D19 E19 hR hC hn0 hd he
 by_cases hp : 0 < runC fs k gs j
 ·obtain ⟨s, r, t, q, rfl, rfl, s1, t1, hrun⟩ := run_pos hp
  obtain ⟨sc, fl, rfl, hsc, hfl, l30, c0, c1, h30⟩ := step_cells hf
  obtain ⟨tc, gl, rfl, htc, hgl, m30, d0, d1, i30⟩ := step_cells hg
  rw [rowL_run hp] at hr
  obtain ⟨q1, q2⟩ := hc.run hp
  have HN := fun fr => run_run (G := gE er) 1 2 (by decide) hf hg hc.cl hc.cm fr
  obtain ⟨x, hx⟩ : ∃ x, x = runC (s :: r) k (t :: q) j := ⟨_, rfl⟩
  rw [← hx] at hr q1 q2 hp hrun HN
  obtain ⟨fs2, k2, hs2⟩ : ∃ l m, skipC (s :: r) k x = (l, m) := ⟨_, _, rfl⟩
  obtain ⟨gs2, j2, hs3⟩ : ∃ l m, skipC (t :: q) j x = (l, m) := ⟨_, _, rfl⟩
  obtain ⟨fl2, hfl2⟩ : ∃ l, l = encES fs2 := ⟨_, rfl⟩
  obtain ⟨gl2, hgl2⟩ : ∃ l, l = encES gs2 := ⟨_, rfl⟩
  have HX := fun fr => skip_run' (G := gE er) 1 hf hc.cl s1 hp (by omega) fl2 k2 (by rw [hs2]; exact hfl2) (by rw [hs2]) fr
  have HY := fun fr => skip_run' (G := gE er) 2 hg hc.cm t1 hp (by omega) gl2 j2 (by rw [hs3]; exact hgl2) (by rw [hs3]) fr
  rw [hs2, hs3] at hr q1 q2
  have hr2 := hr; have hc2 := q1
  simp only at hr2 hc2 q2
  cases b
  ·repeat with_reducible refine jR trivial ?_
   (with_reducible apply hCall); exact over_run 1 _ _ _; with_reducible refine jR (lenC sc fl) ?_
   repeat with_reducible refine jR trivial ?_
   (with_reducible apply hCall); exact HN _; with_reducible refine jR (eq_T hp) ?_
   repeat with_reducible refine jR trivial ?_
   obtain ⟨ol2, hol2⟩ : ∃ l, l = encES (out ++ [(1, x, Val.v0, e0)]) := ⟨_, rfl⟩
   (with_reducible apply hCall); exact HX _; with_reducible refine jR trivial ?_
   repeat with_reducible refine jR trivial ?_
   (with_reducible apply hCall); exact HY _; with_reducible refine jR trivial ?_
   repeat with_reducible refine jR trivial ?_
   with_reducible refine Exists.intro ⟨true, n, fs2, k2, gs2, j2, out ++ [(1, x, Val.v0, e0)], fl2, gl2, ol2, hfl2, hgl2, hol2, fun h => (by cases h), hr2, hc2, (by omega)⟩ (And.intro (Nat.lt_succ_self n) ?_)
   with_reducible refine jR trivial ?_
   exact row_end0 (hb rfl) hol2 (step_keep 1 x)
  ·repeat with_reducible refine jR trivial ?_
   (with_reducible apply hCall); exact over_run 1 _ _ _; with_reducible refine jR (lenC sc fl) ?_
   repeat with_reducible refine jR trivial ?_
   (with_reducible apply hCall); exact HN _; with_reducible refine jR (eq_T hp) ?_
   repeat with_reducible refine jR trivial ?_
   with_reducible refine And.intro (le_bytess hlen ho (Nat.le_refl _)) ?_
   repeat with_reducible refine jR trivial ?_
   obtain ⟨ol2, hol2⟩ : ∃ l, l = encES (out ++ [(1, x, Val.v0, e0)]) := ⟨_, rfl⟩
   (with_reducible apply hCall); exact HX _; with_reducible refine jR trivial ?_
   repeat with_reducible refine jR trivial ?_
   (with_reducible apply hCall); exact HY _; with_reducible refine jR trivial ?_
   repeat with_reducible refine jR trivial ?_
   with_reducible refine Exists.intro ⟨true, n, fs2, k2, gs2, j2, out ++ [(1, x, Val.v0, e0)], fl2, gl2, ol2, hfl2, hgl2, hol2, fun h => (by cases h), hr2, hc2, (by omega)⟩ (And.intro (Nat.lt_succ_self n) ?_)
   with_reducible refine jR trivial ?_
   exact row_end1 ho hol2 (step_keep 1 x)
 have HN := fun fr => run_run (G := gE er) 1 2 (by decide) hf hg hc.cl hc.cm fr
 obtain ⟨x, hx⟩ : ∃ x, x = runC fs k gs j := ⟨_, rfl⟩
 rw [← hx] at HN
 have hp2 : ¬ 0 < x := hx ▸ hp
 cases fs with
 | nil =>
  obtain rfl : fl = [] := by rw [hf, encES]
  cases gs with
  | nil =>
   obtain rfl : gl = [] := by rw [hg, encES]
   have hout : R = .ok out := by rw [← hr, rowL_nn]
   rw [hout, rowA] at HR
   have HT := fun fr => tidy_run (G := gE er) (l := out) (by omega) fr
   rw [← ho] at HT
   obtain ⟨L, hL⟩ : ∃ l, l = (Val.tidyW out).1 ++ (Val.tidyW out).2 := ⟨_, rfl⟩
   rw [← hL] at HT HR
   obtain ⟨lD, hlD⟩ : ∃ l, l = encES L := ⟨_, rfl⟩
   rw [← hlD] at HT
   cases b
   ·repeat with_reducible refine jR trivial ?_
    (with_reducible apply hCall); exact over_run 1 _ _ _; with_reducible refine jR lenN ?_
    repeat with_reducible refine jR trivial ?_
    (with_reducible apply hCall); exact over_run 2 _ _ _; with_reducible refine jR lenN ?_
    repeat with_reducible refine jR trivial ?_
    with_reducible refine Exists.intro (rowQ ol) (And.intro ?_ ?_)
    ·with_reducible refine jR trivial ?_
     obtain rfl : ol = [] := by rw [ho, hb rfl, encES]
     exact LeD.nil
    rcases L with _ | ⟨s, _ | ⟨t, r⟩⟩
    ·obtain rfl : lD = [] := by rw [hlD, encES]
     obtain ⟨hcc, hv⟩ : c = encE e0 ∧ ea = .lit .nilIface := HR
     repeat with_reducible refine jR trivial ?_
     (with_reducible apply hCall); exact HT _; with_reducible refine jR lenN ?_
     repeat with_reducible refine jR trivial ?_
     with_reducible refine jE trivial ?_
     subst hcc hv
     simp only [e0, Val.v0, cE21, cV, eZ, eS]
    ·obtain ⟨sc, lD, rfl, hsc, hfl, l30, c0, c1, h30⟩ := step_cells hlD
     obtain rfl : lD = [] := by rw [hfl, encES]
     by_cases s1 : s.1 = 1
     ·obtain ⟨hcc, hv⟩ : c = encE e0 ∧ ea = .lit .nilIface := by rw [rowEnd, if_pos s1] at HR; exact HR
      repeat with_reducible refine jR trivial ?_
      (with_reducible apply hCall); exact HT _; with_reducible refine jR (J2 (lenC sc []) (lenD1 sc)) ?_
      repeat with_reducible refine jR (J2 (lenC sc []) (lenD1 sc)) ?_
      (with_reducible refine jI sc ?_ ?_); exact rfl
      repeat with_reducible refine jR (J3 l30 (cellQ c0) (eq_T s1)) ?_
      with_reducible refine jE trivial ?_
      subst hcc hv
      simp only [e0, Val.v0, cE21, cV, eZ, eS]
     ·obtain ⟨hcc, hv⟩ : c = encE (rowEE [s]) ∧ ea = .lit .nilIface := by rw [rowEnd, if_neg s1] at HR; exact HR
      repeat with_reducible refine jR trivial ?_
      (with_reducible apply hCall); exact HT _; with_reducible refine jR (J2 (lenC sc []) (lenD1 sc)) ?_
      repeat with_reducible refine jR (J2 (lenC sc []) (lenD1 sc)) ?_
      (with_reducible refine jI sc ?_ ?_); exact rfl
      repeat with_reducible refine jR (J3 l30 (cellQ c0) s1) ?_
      with_reducible refine jE trivial ?_
      subst hcc hv
      simp only [rowEE, Val.v0, cE21, cV, eZ, eS, ← hlD]
    ·obtain ⟨sc, lD, rfl, hsc, hfl, l30, c0, c1, h30⟩ := step_cells hlD
     obtain ⟨tc, lD, rfl, htc, hgl, m30, d0, d1, i30⟩ := step_cells hfl
     obtain ⟨hcc, hv⟩ : c = encE (rowEE (s :: t :: r)) ∧ ea = .lit .nilIface := HR
     repeat with_reducible refine jR trivial ?_
     (with_reducible apply hCall); exact HT _; with_reducible refine jR (J2 (lenC sc (tc :: lD)) (lenD2 sc tc lD)) ?_
     repeat with_reducible refine jR (J2 (lenC sc (tc :: lD)) (lenD2 sc tc lD)) ?_
     with_reducible refine jE trivial ?_
     subst hcc hv
     simp only [rowEE, Val.v0, cE21, cV, eZ, eS, ← hlD]
   ·repeat with_reducible refine jR trivial ?_
    (with_reducible apply hCall); exact over_run 1 _ _ _; with_reducible refine jR lenN ?_
    repeat with_reducible refine jR trivial ?_
    (with_reducible apply hCall); exact over_run 2 _ _ _; with_reducible refine jR lenN ?_
    repeat with_reducible refine jR trivial ?_
    with_reducible refine Exists.intro (rowQ ol) (And.intro ?_ ?_)
    ·with_reducible refine jR trivial ?_
     trivial
    rcases L with _ | ⟨s, _ | ⟨t, r⟩⟩
    ·obtain rfl : lD = [] := by rw [hlD, encES]
     obtain ⟨hcc, hv⟩ : c = encE e0 ∧ ea = .lit .nilIface := HR
     repeat with_reducible refine jR trivial ?_
     (with_reducible apply hCall); exact HT _; with_reducible refine jR lenN ?_
     repeat with_reducible refine jR trivial ?_
     with_reducible refine jE trivial ?_
     subst hcc hv
     simp only [e0, Val.v0, cE21, cV, eZ, eS]
    ·obtain ⟨sc, lD, rfl, hsc, hfl, l30, c0, c1, h30⟩ := step_cells hlD
     obtain rfl : lD = [] := by rw [hfl, encES]
     by_cases s1 : s.1 = 1
     ·obtain ⟨hcc, hv⟩ : c = encE e0 ∧ ea = .lit .nilIface := by rw [rowEnd, if_pos s1] at HR; exact HR
      repeat with_reducible refine jR trivial ?_
      (with_reducible apply hCall); exact HT _; with_reducible refine jR (J2 (lenC sc []) (lenD1 sc)) ?_
      repeat with_reducible refine jR (J2 (lenC sc []) (lenD1 sc)) ?_
      (with_reducible refine jI sc ?_ ?_); exact rfl
      repeat with_reducible refine jR (J3 l30 (cellQ c0) (eq_T s1)) ?_
      with_reducible refine jE trivial ?_
      subst hcc hv
      simp only [e0, Val.v0, cE21, cV, eZ, eS]
     ·obtain ⟨hcc, hv⟩ : c = encE (rowEE [s]) ∧ ea = .lit .nilIface := by rw [rowEnd, if_neg s1] at HR; exact HR
      repeat with_reducible refine jR trivial ?_
      (with_reducible apply hCall); exact HT _; with_reducible refine jR (J2 (lenC sc []) (lenD1 sc)) ?_
      repeat with_reducible refine jR (J2 (lenC sc []) (lenD1 sc)) ?_
      (with_reducible refine jI sc ?_ ?_); exact rfl
      repeat with_reducible refine jR (J3 l30 (cellQ c0) s1) ?_
      with_reducible refine jE trivial ?_
      subst hcc hv
      simp only [rowEE, Val.v0, cE21, cV, eZ, eS, ← hlD]
    ·obtain ⟨sc, lD, rfl, hsc, hfl, l30, c0, c1, h30⟩ := step_cells hlD
     obtain ⟨tc, lD, rfl, htc, hgl, m30, d0, d1, i30⟩ := step_cells hfl
     obtain ⟨hcc, hv⟩ : c = encE (rowEE (s :: t :: r)) ∧ ea = .lit .nilIface := HR
     repeat with_reducible refine jR trivial ?_
     (with_reducible apply hCall); exact HT _; with_reducible refine jR (J2 (lenC sc (tc :: lD)) (lenD2 sc tc lD)) ?_
     repeat with_reducible refine jR (J2 (lenC sc (tc :: lD)) (lenD2 sc tc lD)) ?_
     with_reducible refine jE trivial ?_
     subst hcc hv
     simp only [rowEE, Val.v0, cE21, cV, eZ, eS, ← hlD]
  | cons t q =>
   obtain ⟨tc, gl, rfl, htc, hgl, m30, d0, d1, i30⟩ := step_cells hg
   by_cases t3 : t.1 = 3
   ·obtain ⟨tk, htk⟩ : ∃ l, l = stC (one1 t) := ⟨_, rfl⟩
    have hnt := Cur.of2 hc.cm (by rw [t3]; decide)
    have HY := fun fr => next_run' (G := gE er) 2 hg hc.cm tk htk gl 0 (by rw [hnt.1]; exact hgl) (by rw [hnt.1]) fr
    rw [hnt.2] at htk
    have hl := (left_cons hc.cm).2
    rw [rowL_put0 t3] at hr
    cases b
    ·repeat with_reducible refine jR trivial ?_
     (with_reducible apply hCall); exact over_run 1 _ _ _; with_reducible refine jR lenN ?_
     repeat with_reducible refine jR trivial ?_
     (with_reducible apply hCall); exact over_run 2 _ _ _; with_reducible refine jR (lenC tc gl) ?_
     repeat with_reducible refine jR trivial ?_
     (with_reducible apply hCall); exact HN _; with_reducible refine jR hp2 ?_
     repeat with_reducible refine jR trivial ?_
     (with_reducible apply hCall); exact kind_run 1 (by rw [encES] : ([] : List (List DV)) = encES []) k _; with_reducible refine jR nK2 ?_
     repeat with_reducible refine jR trivial ?_
     (with_reducible apply hCall); exact kind_run 2 hg j _; with_reducible refine jR (eq_T (cK q t3)) ?_
     repeat with_reducible refine jR trivial ?_
     (with_reducible apply hCall); exact HY _; with_reducible refine jR trivial ?_
     repeat with_reducible refine jR trivial ?_
     obtain ⟨ol2, hol2⟩ : ∃ l, l = encES (out ++ [t]) := ⟨_, rfl⟩
     with_reducible refine Exists.intro ⟨true, n, [], k, q, 0, out ++ [t], [], gl, ol2, hf, hgl, hol2, fun h => (by cases h), hr, hc.put, (by omega)⟩ (And.intro (Nat.lt_succ_self n) ?_)
     with_reducible refine jR trivial ?_
     exact row_end0 (hb rfl) hol2 (step_is htk)
    ·repeat with_reducible refine jR trivial ?_
     (with_reducible apply hCall); exact over_run 1 _ _ _; with_reducible refine jR lenN ?_
     repeat with_reducible refine jR trivial ?_
     (with_reducible apply hCall); exact over_run 2 _ _ _; with_reducible refine jR (lenC tc gl) ?_
     repeat with_reducible refine jR trivial ?_
     (with_reducible apply hCall); exact HN _; with_reducible refine jR hp2 ?_
     repeat with_reducible refine jR trivial ?_
     (with_reducible apply hCall); exact kind_run 1 (by rw [encES] : ([] : List (List DV)) = encES []) k _; with_reducible refine jR nK2 ?_
     repeat with_reducible refine jR trivial ?_
     (with_reducible apply hCall); exact kind_run 2 hg j _; with_reducible refine jR (eq_T (cK q t3)) ?_
     repeat with_reducible refine jR trivial ?_
     (with_reducible apply hCall); exact HY _; with_reducible refine jR trivial ?_
     repeat with_reducible refine jR trivial ?_
     with_reducible refine And.intro (le_bytess hlen ho (Nat.le_refl _)) ?_
     repeat with_reducible refine jR trivial ?_
     obtain ⟨ol2, hol2⟩ : ∃ l, l = encES (out ++ [t]) := ⟨_, rfl⟩
     with_reducible refine Exists.intro ⟨true, n, [], k, q, 0, out ++ [t], [], gl, ol2, hf, hgl, hol2, fun h => (by cases h), hr, hc.put, (by omega)⟩ (And.intro (Nat.lt_succ_self n) ?_)
     with_reducible refine jR trivial ?_
     exact row_end1 ho hol2 (step_is htk)
   ·rw [rowL_end0 t3] at hr
    obtain ⟨hcc, hv⟩ : c = zEd ∧ ea = .lit er.c := by rw [← hr] at HR; exact HR
    cases b
    ·repeat with_reducible refine jR trivial ?_
     (with_reducible apply hCall); exact over_run 1 _ _ _; with_reducible refine jR lenN ?_
     repeat with_reducible refine jR trivial ?_
     (with_reducible apply hCall); exact over_run 2 _ _ _; with_reducible refine jR (lenC tc gl) ?_
     repeat with_reducible refine jR trivial ?_
     (with_reducible apply hCall); exact HN _; with_reducible refine jR hp2 ?_
     repeat with_reducible refine jR trivial ?_
     (with_reducible apply hCall); exact kind_run 1 (by rw [encES] : ([] : List (List DV)) = encES []) k _; with_reducible refine jR nK2 ?_
     repeat with_reducible refine jR trivial ?_
     (with_reducible apply hCall); exact kind_run 2 hg j _; with_reducible refine jR (nK q t3) ?_
     repeat with_reducible refine jR trivial ?_
     (with_reducible apply hCall); exact over_run 1 _ _ _; with_reducible refine jR lenN ?_
     repeat with_reducible refine jR trivial ?_
     with_reducible refine Exists.intro (retQ (.lit er.c)) (And.intro ?_ ?_)
     ·with_reducible refine jR trivial ?_
      and_intros <;> exact LeD.of rfl
     repeat with_reducible refine jR trivial ?_
     with_reducible refine jE trivial ?_
     subst hcc hv
     and_intros <;> exact LeD.of rfl
    ·repeat with_reducible refine jR trivial ?_
     (with_reducible apply hCall); exact over_run 1 _ _ _; with_reducible refine jR lenN ?_
     repeat with_reducible refine jR trivial ?_
     (with_reducible apply hCall); exact over_run 2 _ _ _; with_reducible refine jR (lenC tc gl) ?_
     repeat with_reducible refine jR trivial ?_
     (with_reducible apply hCall); exact HN _; with_reducible refine jR hp2 ?_
     repeat with_reducible refine jR trivial ?_
     (with_reducible apply hCall); exact kind_run 1 (by rw [encES] : ([] : List (List DV)) = encES []) k _; with_reducible refine jR nK2 ?_
     repeat with_reducible refine jR trivial ?_
     (with_reducible apply hCall); exact kind_run 2 hg j _; with_reducible refine jR (nK q t3) ?_
     repeat with_reducible refine jR trivial ?_
     (with_reducible apply hCall); exact over_run 1 _ _ _; with_reducible refine jR lenN ?_
     repeat with_reducible refine jR trivial ?_
     with_reducible refine Exists.intro (retQ (.lit er.c)) (And.intro ?_ ?_)
     ·with_reducible refine jR trivial ?_
      and_intros <;> exact LeD.of rfl
     repeat with_reducible refine jR trivial ?_
     with_reducible refine jE trivial ?_
     subst hcc hv
     and_intros <;> exact LeD.of rfl
 | cons s r =>
  obtain ⟨sc, fl, rfl, hsc, hfl, l30, c0, c1, h30⟩ := step_cells hf
  by_cases s2 : s.1 = 2
  ·obtain ⟨sk, hsk⟩ : ∃ l, l = stC (one1 s) := ⟨_, rfl⟩
   have hns := Cur.of2 hc.cl (by rw [s2]; decide)
   have HX := fun fr => next_run' (G := gE er) 1 hf hc.cl sk hsk fl 0 (by rw [hns.1]; exact hfl) (by rw [hns.1]) fr
   rw [hns.2] at hsk
   have hl := (left_cons hc.cl).2
   rw [rowL_drop hp s2] at hr
   cases b
   ·repeat with_reducible refine jR trivial ?_
    (with_reducible apply hCall); exact over_run 1 _ _ _; with_reducible refine jR (lenC sc fl) ?_
    repeat with_reducible refine jR trivial ?_
    (with_reducible apply hCall); exact HN _; with_reducible refine jR hp2 ?_
    repeat with_reducible refine jR trivial ?_
    (with_reducible apply hCall); exact kind_run 1 hf k _; with_reducible refine jR (eq_T (cK r s2)) ?_
    repeat with_reducible refine jR trivial ?_
    (with_reducible apply hCall); exact HX _; with_reducible refine jR trivial ?_
    repeat with_reducible refine jR trivial ?_
    obtain ⟨ol2, hol2⟩ : ∃ l, l = encES (out ++ [s]) := ⟨_, rfl⟩
    with_reducible refine Exists.intro ⟨true, n, r, 0, gs, j, out ++ [s], fl, gl, ol2, hfl, hg, hol2, fun h => (by cases h), hr, hc.drop, (by omega)⟩ (And.intro (Nat.lt_succ_self n) ?_)
    with_reducible refine jR trivial ?_
    exact row_end0 (hb rfl) hol2 (step_is hsk)
   ·repeat with_reducible refine jR trivial ?_
    (with_reducible apply hCall); exact over_run 1 _ _ _; with_reducible refine jR (lenC sc fl) ?_
    repeat with_reducible refine jR trivial ?_
    (with_reducible apply hCall); exact HN _; with_reducible refine jR hp2 ?_
    repeat with_reducible refine jR trivial ?_
    (with_reducible apply hCall); exact kind_run 1 hf k _; with_reducible refine jR (eq_T (cK r s2)) ?_
    repeat with_reducible refine jR trivial ?_
    (with_reducible apply hCall); exact HX _; with_reducible refine jR trivial ?_
    repeat with_reducible refine jR trivial ?_
    with_reducible refine And.intro (le_bytess hlen ho (Nat.le_refl _)) ?_
    repeat with_reducible refine jR trivial ?_
    obtain ⟨ol2, hol2⟩ : ∃ l, l = encES (out ++ [s]) := ⟨_, rfl⟩
    with_reducible refine Exists.intro ⟨true, n, r, 0, gs, j, out ++ [s], fl, gl, ol2, hfl, hg, hol2, fun h => (by cases h), hr, hc.drop, (by omega)⟩ (And.intro (Nat.lt_succ_self n) ?_)
    with_reducible refine jR trivial ?_
    exact row_end1 ho hol2 (step_is hsk)
  cases gs with
  | nil =>
   obtain rfl : gl = [] := by rw [hg, encES]
   rw [rowL_end hp s2] at hr
   obtain ⟨hcc, hv⟩ : c = zEd ∧ ea = .lit er.c := by rw [← hr] at HR; exact HR
   cases b
   ·repeat with_reducible refine jR trivial ?_
    (with_reducible apply hCall); exact over_run 1 _ _ _; with_reducible refine jR (lenC sc fl) ?_
    repeat with_reducible refine jR trivial ?_
    (with_reducible apply hCall); exact HN _; with_reducible refine jR hp2 ?_
    repeat with_reducible refine jR trivial ?_
    (with_reducible apply hCall); exact kind_run 1 hf k _; with_reducible refine jR (nK r s2) ?_
    repeat with_reducible refine jR trivial ?_
    (with_reducible apply hCall); exact kind_run 2 hg j _; with_reducible refine jR nK3 ?_
    repeat with_reducible refine jR trivial ?_
    (with_reducible apply hCall); exact over_run 1 _ _ _; with_reducible refine jR (lenC sc fl) ?_
    repeat with_reducible refine jR trivial ?_
    (with_reducible apply hCall); exact over_run 2 _ _ _; with_reducible refine jR lenN ?_
    repeat with_reducible refine jR trivial ?_
    with_reducible refine Exists.intro (retQ (.lit er.c)) (And.intro ?_ ?_)
    ·with_reducible refine jR trivial ?_
     and_intros <;> exact LeD.of rfl
    repeat with_reducible refine jR trivial ?_
    with_reducible refine jE trivial ?_
    subst hcc hv
    and_intros <;> exact LeD.of rfl
   ·repeat with_reducible refine jR trivial ?_
    (with_reducible apply hCall); exact over_run 1 _ _ _; with_reducible refine jR (lenC sc fl) ?_
    repeat with_reducible refine jR trivial ?_
    (with_reducible apply hCall); exact HN _; with_reducible refine jR hp2 ?_
    repeat with_reducible refine jR trivial ?_
    (with_reducible apply hCall); exact kind_run 1 hf k _; with_reducible refine jR (nK r s2) ?_
    repeat with_reducible refine jR trivial ?_
    (with_reducible apply hCall); exact kind_run 2 hg j _; with_reducible refine jR nK3 ?_
    repeat with_reducible refine jR trivial ?_
    (with_reducible apply hCall); exact over_run 1 _ _ _; with_reducible refine jR (lenC sc fl) ?_
    repeat with_reducible refine jR trivial ?_
    (with_reducible apply hCall); exact over_run 2 _ _ _; with_reducible refine jR lenN ?_
    repeat with_reducible refine jR trivial ?_
    with_reducible refine Exists.intro (retQ (.lit er.c)) (And.intro ?_ ?_)
    ·with_reducible refine jR trivial ?_
     and_intros <;> exact LeD.of rfl
    repeat with_reducible refine jR trivial ?_
    with_reducible refine jE trivial ?_
    subst hcc hv
    and_intros <;> exact LeD.of rfl
  | cons t q =>
   obtain ⟨tc, gl, rfl, htc, hgl, m30, d0, d1, i30⟩ := step_cells hg
   by_cases t3 : t.1 = 3
   ·obtain ⟨tk, htk⟩ : ∃ l, l = stC (one1 t) := ⟨_, rfl⟩
    have hnt := Cur.of2 hc.cm (by rw [t3]; decide)
    have HY := fun fr => next_run' (G := gE er) 2 hg hc.cm tk htk gl 0 (by rw [hnt.1]; exact hgl) (by rw [hnt.1]) fr
    rw [hnt.2] at htk
    have hl := (left_cons hc.cm).2
    rw [rowL_put hp s2 t3] at hr
    cases b
    ·repeat with_reducible refine jR trivial ?_
     (with_reducible apply hCall); exact over_run 1 _ _ _; with_reducible refine jR (lenC sc fl) ?_
     repeat with_reducible refine jR trivial ?_
     (with_reducible apply hCall); exact HN _; with_reducible refine jR hp2 ?_
     repeat with_reducible refine jR trivial ?_
     (with_reducible apply hCall); exact kind_run 1 hf k _; with_reducible refine jR (nK r s2) ?_
     repeat with_reducible refine jR trivial ?_
     (with_reducible apply hCall); exact kind_run 2 hg j _; with_reducible refine jR (eq_T (cK q t3)) ?_
     repeat with_reducible refine jR trivial ?_
     (with_reducible apply hCall); exact HY _; with_reducible refine jR trivial ?_
     repeat with_reducible refine jR trivial ?_
     obtain ⟨ol2, hol2⟩ : ∃ l, l = encES (out ++ [t]) := ⟨_, rfl⟩
     with_reducible refine Exists.intro ⟨true, n, (s :: r), k, q, 0, out ++ [t], (sc :: fl), gl, ol2, hf, hgl, hol2, fun h => (by cases h), hr, hc.put, (by omega)⟩ (And.intro (Nat.lt_succ_self n) ?_)
     with_reducible refine jR trivial ?_
     exact row_end0 (hb rfl) hol2 (step_is htk)
    ·repeat with_reducible refine jR trivial ?_
     (with_reducible apply hCall); exact over_run 1 _ _ _; with_reducible refine jR (lenC sc fl) ?_
     repeat with_reducible refine jR trivial ?_
     (with_reducible apply hCall); exact HN _; with_reducible refine jR hp2 ?_
     repeat with_reducible refine jR trivial ?_
     (with_reducible apply hCall); exact kind_run 1 hf k _; with_reducible refine jR (nK r s2) ?_
     repeat with_reducible refine jR trivial ?_
     (with_reducible apply hCall); exact kind_run 2 hg j _; with_reducible refine jR (eq_T (cK q t3)) ?_
     repeat with_reducible refine jR trivial ?_
     (with_reducible apply hCall); exact HY _; with_reducible refine jR trivial ?_
     repeat with_reducible refine jR trivial ?_
     with_reducible refine And.intro (le_bytess hlen ho (Nat.le_refl _)) ?_
     repeat with_reducible refine jR trivial ?_
     obtain ⟨ol2, hol2⟩ : ∃ l, l = encES (out ++ [t]) := ⟨_, rfl⟩
     with_reducible refine Exists.intro ⟨true, n, (s :: r), k, q, 0, out ++ [t], (sc :: fl), gl, ol2, hf, hgl, hol2, fun h => (by cases h), hr, hc.put, (by omega)⟩ (And.intro (Nat.lt_succ_self n) ?_)
     with_reducible refine jR trivial ?_
     exact row_end1 ho hol2 (step_is htk)
   rw [rowL_after hp s2 t3] at hr
   have ha := hc.after hsz hp s2 t3
   obtain ⟨sk, hsk⟩ : ∃ l, l = stC (one1 s) := ⟨_, rfl⟩
   obtain ⟨tk, htk⟩ : ∃ l, l = stC (one1 t) := ⟨_, rfl⟩
   obtain ⟨fs2, k2, hs2⟩ : ∃ l m, nextC (s :: r) k = (l, m) := ⟨_, _, rfl⟩
   obtain ⟨gs2, j2, hs3⟩ : ∃ l m, nextC (t :: q) j = (l, m) := ⟨_, _, rfl⟩
   obtain ⟨fl2, hfl2⟩ : ∃ l, l = encES fs2 := ⟨_, rfl⟩
   obtain ⟨gl2, hgl2⟩ : ∃ l, l = encES gs2 := ⟨_, rfl⟩
   have HX := fun fr => next_run' (G := gE er) 1 hf hc.cl sk hsk fl2 k2 (by rw [hs2]; exact hfl2) (by rw [hs2]) fr
   have HY := fun fr => next_run' (G := gE er) 2 hg hc.cm tk htk gl2 j2 (by rw [hs3]; exact hgl2) (by rw [hs3]) fr
   have hm1 := hc.cl.next.2; have hm2 := hc.cm.next.2
   rw [hs2] at hm1; rw [hs3] at hm2; simp only at hm1 hm2
   have B1 := one1_B (hc.cl.ok s (List.mem_cons_self ..)); have B2 := one1_B (hc.cm.ok t (List.mem_cons_self ..))
   obtain ⟨o1, o2⟩ := one1_of s
   obtain ⟨o3, o4⟩ := one1_of t
   have hz1 := hc.sz; rw [eszS_cons, eszS_cons] at hz1
   obtain ⟨fn, vc, ve, hfn, h2, HB⟩ := by_run er B1 B2 (by rw [o1]; exact s2) (by rw [o3]; exact t3) (by rw [o2, o4]; omega) (fun h4 h5 => by rw [o2, o4]; exact hc.fn s (List.mem_cons_self ..) t (List.mem_cons_self ..) (o1 ▸ h4) (o3 ▸ h5))
   obtain ⟨b2, hbb, y2, n2⟩ := sr_nil h2
   have k0 := stC_0 hsk
   have HA := fun fr => after_run (G := gE er) (one1 s).1 fn hfn fr
   rw [← k0] at HA
   cases b
   ·repeat with_reducible refine jR trivial ?_
    (with_reducible apply hCall); exact over_run 1 _ _ _; with_reducible refine jR (lenC sc fl) ?_
    repeat with_reducible refine jR trivial ?_
    (with_reducible apply hCall); exact HN _; with_reducible refine jR hp2 ?_
    repeat with_reducible refine jR trivial ?_
    (with_reducible apply hCall); exact kind_run 1 hf k _; with_reducible refine jR (nK r s2) ?_
    repeat with_reducible refine jR trivial ?_
    (with_reducible apply hCall); exact kind_run 2 hg j _; with_reducible refine jR (nK q t3) ?_
    repeat with_reducible refine jR trivial ?_
    (with_reducible apply hCall); exact over_run 1 _ _ _; with_reducible refine jR (lenC sc fl) ?_
    repeat with_reducible refine jR trivial ?_
    (with_reducible apply hCall); exact over_run 2 _ _ _; with_reducible refine jR (lenC tc gl) ?_
    repeat with_reducible refine jR trivial ?_
    (with_reducible apply hCall); exact HX _; with_reducible refine jR trivial ?_
    repeat with_reducible refine jR trivial ?_
    (with_reducible apply hCall); exact HY _; with_reducible refine jR trivial ?_
    repeat with_reducible refine jR (cellQ k0) ?_
    (with_reducible apply hCall); exact HA _; with_reducible refine jR trivial ?_
    repeat with_reducible refine jR trivial ?_
    (with_reducible apply hCall); exact HB _ _ hsk htk _; with_reducible refine jR hbb ?_
    refine ⟨fun hb2 => ?_, fun hb2 => ?_⟩
    ·obtain ⟨m, hrm, hev⟩ := y2 hb2
     rw [hrm] at hr
     obtain ⟨hcc, hv⟩ : c = zEd ∧ ea = ve := by rw [← hr] at HR; exact ⟨HR.1, HR.2.trans hev.symm⟩
     repeat with_reducible refine jR trivial ?_
     with_reducible refine Exists.intro (retQ ve) (And.intro ?_ ?_)
     ·with_reducible refine jR trivial ?_
      and_intros <;> exact LeD.of rfl
     repeat with_reducible refine jR trivial ?_
     with_reducible refine jE trivial ?_
     subst hcc hv
     and_intros <;> exact LeD.of rfl
    obtain ⟨o, hro, hvo, hev⟩ := n2 hb2
    rw [hro] at hr
    obtain ⟨ha1, ha2⟩ := ha.2 o hro
    obtain ⟨oL, hoL⟩ : ∃ l, l = encES o := ⟨_, rfl⟩
    have hoLn : oL.length ≤ 1 := by rw [hoL, encES_length]; exact ha1
    have o30 : (∀ x ∈ oL, x.length = 30) = True := eq_T (by rw [hoL]; exact encES_len o)
    rw [← hoL] at hvo
    subst hvo
    repeat with_reducible refine jR o30 ?_
    with_reducible refine And.intro (le_bytes0 hoLn) ?_
    repeat with_reducible refine jR trivial ?_
    obtain ⟨ol2, hol2⟩ : ∃ l, l = encES (out ++ o) := ⟨_, rfl⟩
    have hc2 := ha2; rw [hs2, hs3] at hc2 hr; simp only at hc2 hr
    with_reducible refine Exists.intro ⟨true, n, fs2, k2, gs2, j2, out ++ o, fl2, gl2, ol2, hfl2, hgl2, hol2, fun h => (by cases h), hr, hc2, (by omega)⟩ (And.intro (Nat.lt_succ_self n) ?_)
    with_reducible refine jR trivial ?_
    exact row_end0 (hb rfl) hol2 (LeR.of hoL)
   ·repeat with_reducible refine jR trivial ?_
    (with_reducible apply hCall); exact over_run 1 _ _ _; with_reducible refine jR (lenC sc fl) ?_
    repeat with_reducible refine jR trivial ?_
    (with_reducible apply hCall); exact HN _; with_reducible refine jR hp2 ?_
    repeat with_reducible refine jR trivial ?_
    (with_reducible apply hCall); exact kind_run 1 hf k _; with_reducible refine jR (nK r s2) ?_
    repeat with_reducible refine jR trivial ?_
    (with_reducible apply hCall); exact kind_run 2 hg j _; with_reducible refine jR (nK q t3) ?_
    repeat with_reducible refine jR trivial ?_
    (with_reducible apply hCall); exact over_run 1 _ _ _; with_reducible refine jR (lenC sc fl) ?_
    repeat with_reducible refine jR trivial ?_
    (with_reducible apply hCall); exact over_run 2 _ _ _; with_reducible refine jR (lenC tc gl) ?_
    repeat with_reducible refine jR trivial ?_
    (with_reducible apply hCall); exact HX _; with_reducible refine jR trivial ?_
    repeat with_reducible refine jR trivial ?_
    (with_reducible apply hCall); exact HY _; with_reducible refine jR trivial ?_
    repeat with_reducible refine jR (cellQ k0) ?_
    (with_reducible apply hCall); exact HA _; with_reducible refine jR trivial ?_
    repeat with_reducible refine jR trivial ?_
    (with_reducible apply hCall); exact HB _ _ hsk htk _; with_reducible refine jR hbb ?_
    refine ⟨fun hb2 => ?_, fun hb2 => ?_⟩
    ·obtain ⟨m, hrm, hev⟩ := y2 hb2
     rw [hrm] at hr
     obtain ⟨hcc, hv⟩ : c = zEd ∧ ea = ve := by rw [← hr] at HR; exact ⟨HR.1, HR.2.trans hev.symm⟩
     repeat with_reducible refine jR trivial ?_
     with_reducible refine Exists.intro (retQ ve) (And.intro ?_ ?_)
     ·with_reducible refine jR trivial ?_
      and_intros <;> exact LeD.of rfl
     repeat with_reducible refine jR trivial ?_
     with_reducible refine jE trivial ?_
     subst hcc hv
     and_intros <;> exact LeD.of rfl
    obtain ⟨o, hro, hvo, hev⟩ := n2 hb2
    rw [hro] at hr
    obtain ⟨ha1, ha2⟩ := ha.2 o hro
    obtain ⟨oL, hoL⟩ : ∃ l, l = encES o := ⟨_, rfl⟩
    have hoLn : oL.length ≤ 1 := by rw [hoL, encES_length]; exact ha1
    have o30 : (∀ x ∈ oL, x.length = 30) = True := eq_T (by rw [hoL]; exact encES_len o)
    rw [← hoL] at hvo
    subst hvo
    repeat with_reducible refine jR o30 ?_
    with_reducible refine And.intro (le_bytess hlen ho hoLn) ?_
    repeat with_reducible refine jR trivial ?_
    obtain ⟨ol2, hol2⟩ : ∃ l, l = encES (out ++ o) := ⟨_, rfl⟩
    have hc2 := ha2; rw [hs2, hs3] at hc2 hr; simp only at hc2 hr
    with_reducible refine Exists.intro ⟨true, n, fs2, k2, gs2, j2, out ++ o, fl2, gl2, ol2, hfl2, hgl2, hol2, fun h => (by cases h), hr, hc2, (by omega)⟩ (And.intro (Nat.lt_succ_self n) ?_)
    with_reducible refine jR trivial ?_
    exact row_end1 ho hol2 (LeR.of hoL)
end Go.Proofs.YtlmbcoecipbblaaGreatDoor
