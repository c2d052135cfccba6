/- compose.into, by the engine: given pair. -/
import Derived.Test.YtlmbcoecipbblaaGreatDoorGpO
set_option maxRecDepth 100000
set_option maxHeartbeats 8000000
set_option linter.unusedVariables false
set_option linter.unusedSimpArgs false
namespace Go.Proofs.YtlmbcoecipbblaaGreatDoor
open Go.RowKit
open Val (V E right cmp eright ado Res avalue esm esmF esmS esmK vmx esz eszF eszS eszK e0 swapE swapF PairP inv)
structure IX (er : Errs) (R : Res (List (Int × E))) where
 fs : List (Int × E)
 gs : List (Int × E)
 out : List (Int × E)
 fl : List (List DV)
 gl : List (List DV)
 ol : List (List DV)
 hf : fl = encEF fs
 hg : gl = encEF gs
 ho : ol = encEF out
 hr : intoL (prC er 17) fs gs out = R
 hn : out.length + (fs.length + gs.length) ≤ 90000
 hp : ∀ f ∈ fs, ∀ g ∈ gs, CoE er 17 f.2 g.2
def intoS (dc ec : List DV) (fl gl ol : List (List DV)) : Go.Proofs.YtlmbcoecipbblaaGreatDoor.St := ⟨[(2, .ptr 0 0), (3, .ptr 1 0), (4, .ptr 2 0), (5, .d fun _ => .lit .nilIface), (6, .ptr 3 0), (7, .d fun _ => .sl fl), (8, .d fun _ => .sl gl)],
   [(0, .blk (cellsP 21 dc)), (1, .blk (cellsP 21 ec)), (2, .blk (List.replicate 21 .dead)),
    (3, .blk ((.d fun _ => .lit (.int .i64 2)) :: ((zVd ++ zVd).map fun x => .d fun _ => x) ++ rowV 4 ol :: [.d fun _ => .lit (.bool false), .d fun _ => .lit (.string ⟨#[]⟩), .d fun _ => .lit (.string ⟨#[]⟩), .d fun _ => .lit (.slice none 0 0), .d fun _ => .lit (.slice none 0 0)]))] ++ rowO 4 60 22 ol, 6, 0⟩
def intoQ (dc ec : List DV) (ol : List (List DV)) : Go.Proofs.YtlmbcoecipbblaaGreatDoor.St := ⟨[(2, .ptr 0 0), (3, .ptr 1 0), (4, .ptr 2 0), (5, .d fun _ => .lit .nilIface), (6, .ptr 3 0)],
   [(0, .blk (cellsP 21 dc)), (1, .blk (cellsP 21 ec)), (2, .blk (List.replicate 21 .dead)),
    (3, .blk ((.d fun _ => .lit (.int .i64 2)) :: ((zVd ++ zVd).map fun x => .d fun _ => x) ++ (.d fun _ => .sl ol) :: [.d fun _ => .lit (.bool false), .d fun _ => .lit (.string ⟨#[]⟩), .d fun _ => .lit (.string ⟨#[]⟩), .d fun _ => .lit (.slice none 0 0), .d fun _ => .lit (.slice none 0 0)]))], 4, 0⟩
theorem encEF_app : ∀ a b : List (Int × E), encEF (a ++ b) = encEF a ++ encEF b
 | [], b => by rw [encEF]; rfl
 | (n, e) :: r, b => by rw [List.cons_append, encEF, encEF, encEF_app r b]; rfl
theorem putF_enc {out : List (Int × E)} {f : Int × E} (h : ¬ f.2.kind = 0) : encEF out ++ [.lit (.int .i64 f.1) :: encE f.2] = encEF (Val.putF out f) := by
 rw [Val.putF, if_neg h, encEF_app]; obtain ⟨n, x⟩ := f; rw [show encEF [(n, x)] = [.lit (.int .i64 n) :: encE x] from by rw [encEF, encEF]]
theorem put_enc {out : List (Int × E)} {f : Int × E} {ol : List (List DV)} {qc : List DV} (ho : ol = encEF out) (hq : qc = .lit (.int .i64 f.1) :: encE f.2) (h : ¬ f.2.kind = 0) : ol ++ [qc] = encEF (Val.putF out f) := by rw [ho, hq, putF_enc h]
theorem put_same {out : List (Int × E)} {f : Int × E} {ol : List (List DV)} (ho : ol = encEF out) (h : f.2.kind = 0) : ol = encEF (Val.putF out f) := by rw [ho, Val.putF, if_pos h]
theorem le_put {out : List (Int × E)} {f : Int × E} {a b : Nat} (h : out.length + a ≤ 90000) (h2 : b + 1 ≤ a) : (Val.putF out f).length + b ≤ 90000 := by
 unfold Val.putF; split
 ·omega
 ·rw [List.length_append]; simp only [List.length_cons, List.length_nil]; omega
theorem le_bytes {out : List (Int × E)} {a p : Nat} (h : out.length + a ≤ 90000) {ol : List (List DV)} (ho : ol = encEF out) (h2 : p = 1) : (ol.length + p) * 368 ≤ 140737488355328 := by
 rw [ho, encEF_length]; omega
theorem encEF_len : ∀ (f : List (Int × E)), ∀ x ∈ encEF f, x.length = 22
 | [], x, h => by rw [encEF] at h; cases h
 | (n, e) :: r, x, h => by
  rw [encEF] at h
  rcases List.mem_cons.1 h with rfl | h
  ·rw [List.length_cons, encE_len]
  ·exact encEF_len r x h
theorem field_cells {f : Int × E} {fs : List (Int × E)} {fl : List (List DV)} (h : fl = encEF (f :: fs)) : ∃ fc fr, fl = fc :: fr ∧ fc = .lit (.int .i64 f.1) :: encE f.2 ∧ fr = encEF fs ∧ fc.length = 22 ∧ cellAt fc 0 = .lit (.int .i64 f.1) ∧ cellAt fc 1 = .lit (.int .i64 f.2.kind) ∧ (∀ x ∈ fr, x.length = 22) = True := by
 obtain ⟨n, x⟩ := f
 rw [encEF] at h
 exact ⟨_, _, h, rfl, rfl, by rw [List.length_cons, encE_len], rfl, (cE x).1, eq_T (encEF_len fs)⟩
theorem into_run (er : Errs) (d e : E) (hg : CoGood d e) (R : Res (List (Int × E))) (hR : intoL (prC er 17) d.fields e.fields [] = R) (hpk : ∀ f ∈ d.fields, ∀ g ∈ e.fields, CoE er 17 f.2 g.2) (c : List DV) (ea : DV) (HR : EEr er (Val.intoA d e R) c ea) (dc ec : List DV) (hd : dc = encE d) (he : ec = encE e) (fr : List Nat) :
  PRun Tryz.prog (gE er) 65 [.agg (cellsP 21 dc), .agg (cellsP 21 ec)] [] fr (.tup [.agg (cellsP 21 c), .d fun _ => ea]) [] := by
 obtain ⟨fl0, hfl0⟩ : ∃ l, l = encEF d.fields := ⟨_, rfl⟩
 obtain ⟨gl0, hgl0⟩ : ∃ l, l = encEF e.fields := ⟨_, rfl⟩
 have D15 : cellAt dc 15 = .sl fl0 := by rw [hd, hfl0]; exact (cE d).2.2.2.1
 have E15 : cellAt ec 15 = .sl gl0 := by rw [he, hgl0]; exact (cE e).2.2.2.1
 refine PRun.pure (xs := [.agg (cellsP 21 dc), .agg (cellsP 21 ec)]) (r1 := .tup [.agg (cellsP 21 c), .d fun _ => ea]) tI_ok (by kernel_rfl) Tryz.func65 rfl rfl (by kernel_rfl) ?_
 with_reducible refine jR trivial ?_
 refine hLoop (loop_okC (ι := IX er R) tI_ok (by kernel_rfl) (fun x => intoS dc ec x.fl x.gl x.ol) (fun x => x.fs.length + x.gs.length)
  ⟨d.fields, e.fields, [], fl0, gl0, [], hfl0, hgl0, by rw [encEF], hR, (by have h1 := eszF_length d.fields; have h2 := eszF_length e.fields; have h3 := (Val.esz_parts d).2.2.1; have h4 := (Val.esz_parts e).2.2.1; have h5 := hg.sz; simp only [List.length_nil]; omega), hpk⟩ ?_ (fun x => ?_))
 ·with_reducible refine jR (J2 D15 E15) ?_
  and_intros <;> exact LeD.of rfl
 obtain ⟨fs, gs, out, fl, gl, ol, hf, hg, ho, hr, hn, hp⟩ := x
 show holds _ _ _ (ev tI (gE er) _ _ (intoS dc ec fl gl ol)) _
 cases fs with
 | nil =>
  obtain rfl : fl = [] := by rw [hf, encEF]
  cases gs with
  | nil =>
   obtain rfl : gl = [] := by rw [hg, encEF]
   have hout : R = .ok out := by rw [← hr, intoL]
   rw [hout, Val.intoA, Val.intoR] at HR
   obtain ⟨xc, hxc⟩ : ∃ l, l = encE (Val.intoE out) := ⟨_, rfl⟩
   obtain ⟨cc, ev, hE, H⟩ := rests_run er hd he hxc
   obtain ⟨b2, hb, y2, n2⟩ := re_nil hE
   rcases ol with _ | ⟨oc, ol⟩
   ·repeat with_reducible refine jR lenN ?_
    with_reducible refine Exists.intro (intoQ dc ec []) (And.intro ?_ ?_)
    ·with_reducible refine jR trivial ?_
     trivial
    repeat with_reducible refine jR trivial ?_
    with_reducible apply hCallL
    ·exact H _
    ·with_reducible refine jR trivial ?_
     simp only [hxc, Val.intoE, Val.v0, cE21, cV, eZ, eS, ← ho]
    with_reducible refine jR hb ?_
    refine ⟨fun hb2 => ?_, fun hb2 => ?_⟩
    ·obtain ⟨n, hrn, hev⟩ := y2 hb2
     rw [hrn] at HR
     obtain ⟨hc, hv⟩ : c = zEd ∧ ea = ev := ⟨HR.1, HR.2.trans hev.symm⟩
     subst hc hv
     repeat with_reducible refine jR trivial ?_
     with_reducible refine jE trivial ?_
     and_intros <;> exact LeD.of rfl
    obtain ⟨x, hrn, hcx, hev⟩ := n2 hb2
    simp only [hrn] at HR
    have c15 : cellAt cc 15 = .sl [] := by rw [hcx, ho, ← Val.restsF_fields hrn]; exact (cE x).2.2.2.1
    have c16 : cellAt cc 16 = .lit (.bool x.rests) := by rw [hcx]; exact (cE x).2.2.2.2.1
    obtain rfl : out = [] := by cases out with | nil => rfl | cons q r => obtain ⟨n, y⟩ := q; rw [encEF] at ho; cases ho
    cases hx : x.rests <;> simp only [hx, List.length_nil, and_self, if_true, if_false, reduceCtorEq, and_false] at c16 HR
    ·obtain ⟨hc, hv⟩ : c = encE e0 ∧ ea = .lit .nilIface := HR
     repeat with_reducible refine jR (J3 (cellQ c15) (cellQ c16) lenN) ?_
     with_reducible refine jE trivial ?_
     subst hc hv
     simp only [e0, Val.v0, cE21, cV, eZ, eS]
    ·obtain ⟨hc, hv⟩ : c = cc ∧ ea = .lit .nilIface := ⟨HR.1.trans hcx.symm, HR.2⟩
     repeat with_reducible refine jR (J3 (cellQ c15) (cellQ c16) lenN) ?_
     with_reducible refine jE trivial ?_
     subst hc hv
     simp only [eS]
   ·repeat with_reducible refine jR lenN ?_
    with_reducible refine Exists.intro (intoQ dc ec (oc :: ol)) (And.intro ?_ ?_)
    ·with_reducible refine jR trivial ?_
     trivial
    repeat with_reducible refine jR trivial ?_
    with_reducible apply hCallL
    ·exact H _
    ·with_reducible refine jR trivial ?_
     simp only [hxc, Val.intoE, Val.v0, cE21, cV, eZ, eS, ← ho]
    with_reducible refine jR hb ?_
    refine ⟨fun hb2 => ?_, fun hb2 => ?_⟩
    ·obtain ⟨n, hrn, hev⟩ := y2 hb2
     rw [hrn] at HR
     obtain ⟨hc, hv⟩ : c = zEd ∧ ea = ev := ⟨HR.1, HR.2.trans hev.symm⟩
     subst hc hv
     repeat with_reducible refine jR trivial ?_
     with_reducible refine jE trivial ?_
     and_intros <;> exact LeD.of rfl
    obtain ⟨x, hrn, hcx, hev⟩ := n2 hb2
    simp only [hrn] at HR
    have c15 : cellAt cc 15 = .sl (oc :: ol) := by rw [hcx, ho, ← Val.restsF_fields hrn]; exact (cE x).2.2.2.1
    have c16 : cellAt cc 16 = .lit (.bool x.rests) := by rw [hcx]; exact (cE x).2.2.2.2.1
    rw [if_neg (fun h => by rw [List.length_eq_zero_iff.1 h.1, encEF] at ho; cases ho)] at HR
    obtain ⟨hc, hv⟩ : c = cc ∧ ea = .lit .nilIface := ⟨HR.1.trans hcx.symm, HR.2⟩
    repeat with_reducible refine jR (J3 (cellQ c15) (cellQ c16) (lenC oc ol)) ?_
    with_reducible refine jE trivial ?_
    subst hc hv
    simp only [eS]
  | cons g gs =>
   obtain ⟨qc, gl, rfl, hqc, hgl, l22, k0, k1, h22⟩ := field_cells hg
   have hw : intoL (prC er 17) [] gs (Val.putF out g) = R := by rw [← hr, intoL]
   rcases ol with _ | ⟨oc, ol⟩
   ·repeat with_reducible refine jR (J2 (lenC qc gl) lenN) ?_
    (with_reducible refine jI qc ?_ ?_); exact rfl
    repeat with_reducible refine jR (J4 l22 h22 (lenC qc gl) (cellQ k1)) ?_
    refine ⟨fun hk => ?_, fun hk => ?_⟩
    ·repeat with_reducible refine jR (J2 (cellQ k1) hk) ?_
     have ho2 : [qc] = encEF (Val.putF out g) := put_enc ho hqc hk
     with_reducible refine Exists.intro ⟨[], gs, Val.putF out g, [], gl, [qc], rfl, hgl, ho2, hw, le_put hn (by simp only [List.length_cons]; omega), fun x hx y hy => hp x hx y (List.mem_cons_of_mem _ hy)⟩ (And.intro (by simp) ?_)
     with_reducible refine jR trivial ?_
     exact ⟨leD_tail _ _, LeR.of (cells_all l22)⟩
    ·have hk := Classical.not_not.1 hk
     repeat with_reducible refine jR (J2 (cellQ k1) hk) ?_
     with_reducible refine Exists.intro ⟨[], gs, Val.putF out g, [], gl, [], rfl, hgl, put_same ho hk, hw, le_put hn (by simp only [List.length_cons]; omega), fun x hx y hy => hp x hx y (List.mem_cons_of_mem _ hy)⟩ (And.intro (by simp) ?_)
     with_reducible refine jR trivial ?_
     exact leD_tail _ _
   ·repeat with_reducible refine jR (J2 (lenC qc gl) lenN) ?_
    (with_reducible refine jI qc ?_ ?_); exact rfl
    repeat with_reducible refine jR (J4 l22 h22 (lenC qc gl) (cellQ k1)) ?_
    refine ⟨fun hk => ?_, fun hk => ?_⟩
    ·repeat with_reducible refine jR (J2 (cellQ k1) hk) ?_
     with_reducible refine And.intro (le_bytes hn ho rfl) ?_
     obtain ⟨ol2, hol2⟩ : ∃ l, l = ol ++ [qc] := ⟨_, rfl⟩
     have ho2 : (oc :: ol2) = encEF (Val.putF out g) := hol2 ▸ put_enc ho hqc hk
     with_reducible refine Exists.intro ⟨[], gs, Val.putF out g, [], gl, (oc :: ol2), rfl, hgl, ho2, hw, le_put hn (by simp only [List.length_cons]; omega), fun x hx y hy => hp x hx y (List.mem_cons_of_mem _ hy)⟩ (And.intro (by simp) ?_)
     with_reducible refine jR trivial ?_
     exact ⟨leD_tail _ _, LeR.of (hol2 ▸ congrArg (oc :: ol ++ ·) (cells_all l22))⟩
    ·have hk := Classical.not_not.1 hk
     repeat with_reducible refine jR (J2 (cellQ k1) hk) ?_
     with_reducible refine Exists.intro ⟨[], gs, Val.putF out g, [], gl, (oc :: ol), rfl, hgl, put_same ho hk, hw, le_put hn (by simp only [List.length_cons]; omega), fun x hx y hy => hp x hx y (List.mem_cons_of_mem _ hy)⟩ (And.intro (by simp) ?_)
     with_reducible refine jR trivial ?_
     exact leD_tail _ _
 | cons f fs =>
  obtain ⟨qc, fl, rfl, hqc, hfl, l22, k0, k1, h22⟩ := field_cells hf
  cases gs with
  | nil =>
   obtain rfl : gl = [] := by rw [hg, encEF]
   have hw : intoL (prC er 17) fs [] (Val.putF out f) = R := by rw [← hr, intoL]
   rcases ol with _ | ⟨oc, ol⟩
   ·repeat with_reducible refine jR (J2 (lenC qc fl) lenN) ?_
    (with_reducible refine jI qc ?_ ?_); exact rfl
    repeat with_reducible refine jR (J4 l22 h22 (lenC qc fl) (cellQ k1)) ?_
    refine ⟨fun hk => ?_, fun hk => ?_⟩
    ·repeat with_reducible refine jR (J2 (cellQ k1) hk) ?_
     have ho2 : [qc] = encEF (Val.putF out f) := put_enc ho hqc hk
     with_reducible refine Exists.intro ⟨fs, [], Val.putF out f, fl, [], [qc], hfl, rfl, ho2, hw, le_put hn (by simp only [List.length_cons]; omega), fun x hx y hy => hp x (List.mem_cons_of_mem _ hx) y hy⟩ (And.intro (by simp) ?_)
     with_reducible refine jR trivial ?_
     exact ⟨leD_tail _ _, LeR.of (cells_all l22)⟩
    ·have hk := Classical.not_not.1 hk
     repeat with_reducible refine jR (J2 (cellQ k1) hk) ?_
     with_reducible refine Exists.intro ⟨fs, [], Val.putF out f, fl, [], [], hfl, rfl, put_same ho hk, hw, le_put hn (by simp only [List.length_cons]; omega), fun x hx y hy => hp x (List.mem_cons_of_mem _ hx) y hy⟩ (And.intro (by simp) ?_)
     with_reducible refine jR trivial ?_
     exact leD_tail _ _
   ·repeat with_reducible refine jR (J2 (lenC qc fl) lenN) ?_
    (with_reducible refine jI qc ?_ ?_); exact rfl
    repeat with_reducible refine jR (J4 l22 h22 (lenC qc fl) (cellQ k1)) ?_
    refine ⟨fun hk => ?_, fun hk => ?_⟩
    ·repeat with_reducible refine jR (J2 (cellQ k1) hk) ?_
     with_reducible refine And.intro (le_bytes hn ho rfl) ?_
     obtain ⟨ol2, hol2⟩ : ∃ l, l = ol ++ [qc] := ⟨_, rfl⟩
     have ho2 : (oc :: ol2) = encEF (Val.putF out f) := hol2 ▸ put_enc ho hqc hk
     with_reducible refine Exists.intro ⟨fs, [], Val.putF out f, fl, [], (oc :: ol2), hfl, rfl, ho2, hw, le_put hn (by simp only [List.length_cons]; omega), fun x hx y hy => hp x (List.mem_cons_of_mem _ hx) y hy⟩ (And.intro (by simp) ?_)
     with_reducible refine jR trivial ?_
     exact ⟨leD_tail _ _, LeR.of (hol2 ▸ congrArg (oc :: ol ++ ·) (cells_all l22))⟩
    ·have hk := Classical.not_not.1 hk
     repeat with_reducible refine jR (J2 (cellQ k1) hk) ?_
     with_reducible refine Exists.intro ⟨fs, [], Val.putF out f, fl, [], (oc :: ol), hfl, rfl, put_same ho hk, hw, le_put hn (by simp only [List.length_cons]; omega), fun x hx y hy => hp x (List.mem_cons_of_mem _ hx) y hy⟩ (And.intro (by simp) ?_)
     with_reducible refine jR trivial ?_
     exact leD_tail _ _
  | cons g gs =>
   obtain ⟨rc, gl, rfl, hrc, hgl, m22, j0, j1, i22⟩ := field_cells hg
   by_cases lt : f.1 < g.1
   ·have hw : intoL (prC er 17) fs (g :: gs) (Val.putF out f) = R := by rw [← hr]; conv => rhs; rw [intoL, if_pos lt]
    rcases ol with _ | ⟨oc, ol⟩
    ·repeat with_reducible refine jR (J2 (lenC qc fl) (lenC rc gl)) ?_
     (with_reducible refine jI qc ?_ ?_); exact rfl
     repeat with_reducible refine jR l22 ?_
     (with_reducible refine jI rc ?_ ?_); exact rfl
     repeat with_reducible refine jR (J4 m22 (cellQ k0) (cellQ j0) (eq_T lt)) ?_
     (with_reducible refine jI qc ?_ ?_); exact rfl
     repeat with_reducible refine jR (J4 l22 h22 (lenC qc fl) (cellQ k1)) ?_
     refine ⟨fun hk => ?_, fun hk => ?_⟩
     ·repeat with_reducible refine jR (J2 (cellQ k1) hk) ?_
      have ho2 : [qc] = encEF (Val.putF out f) := put_enc ho hqc hk
      with_reducible refine Exists.intro ⟨fs, (g :: gs), Val.putF out f, fl, (rc :: gl), [qc], hfl, hg, ho2, hw, le_put hn (by simp only [List.length_cons]; omega), fun x hx y hy => hp x (List.mem_cons_of_mem _ hx) y hy⟩ (And.intro (by simp only [List.length_cons]; omega) ?_)
      with_reducible refine jR trivial ?_
      exact ⟨leD_tail _ _, LeR.of (cells_all l22)⟩
     ·have hk := Classical.not_not.1 hk
      repeat with_reducible refine jR (J2 (cellQ k1) hk) ?_
      with_reducible refine Exists.intro ⟨fs, (g :: gs), Val.putF out f, fl, (rc :: gl), [], hfl, hg, put_same ho hk, hw, le_put hn (by simp only [List.length_cons]; omega), fun x hx y hy => hp x (List.mem_cons_of_mem _ hx) y hy⟩ (And.intro (by simp only [List.length_cons]; omega) ?_)
      with_reducible refine jR trivial ?_
      exact leD_tail _ _
    ·repeat with_reducible refine jR (J2 (lenC qc fl) (lenC rc gl)) ?_
     (with_reducible refine jI qc ?_ ?_); exact rfl
     repeat with_reducible refine jR l22 ?_
     (with_reducible refine jI rc ?_ ?_); exact rfl
     repeat with_reducible refine jR (J4 m22 (cellQ k0) (cellQ j0) (eq_T lt)) ?_
     (with_reducible refine jI qc ?_ ?_); exact rfl
     repeat with_reducible refine jR (J4 l22 h22 (lenC qc fl) (cellQ k1)) ?_
     refine ⟨fun hk => ?_, fun hk => ?_⟩
     ·repeat with_reducible refine jR (J2 (cellQ k1) hk) ?_
      with_reducible refine And.intro (le_bytes hn ho rfl) ?_
      obtain ⟨ol2, hol2⟩ : ∃ l, l = ol ++ [qc] := ⟨_, rfl⟩
      have ho2 : (oc :: ol2) = encEF (Val.putF out f) := hol2 ▸ put_enc ho hqc hk
      with_reducible refine Exists.intro ⟨fs, (g :: gs), Val.putF out f, fl, (rc :: gl), (oc :: ol2), hfl, hg, ho2, hw, le_put hn (by simp only [List.length_cons]; omega), fun x hx y hy => hp x (List.mem_cons_of_mem _ hx) y hy⟩ (And.intro (by simp only [List.length_cons]; omega) ?_)
      with_reducible refine jR trivial ?_
      exact ⟨leD_tail _ _, LeR.of (hol2 ▸ congrArg (oc :: ol ++ ·) (cells_all l22))⟩
     ·have hk := Classical.not_not.1 hk
      repeat with_reducible refine jR (J2 (cellQ k1) hk) ?_
      with_reducible refine Exists.intro ⟨fs, (g :: gs), Val.putF out f, fl, (rc :: gl), (oc :: ol), hfl, hg, put_same ho hk, hw, le_put hn (by simp only [List.length_cons]; omega), fun x hx y hy => hp x (List.mem_cons_of_mem _ hx) y hy⟩ (And.intro (by simp only [List.length_cons]; omega) ?_)
      with_reducible refine jR trivial ?_
      exact leD_tail _ _
   by_cases gt : g.1 < f.1
   ·have hw : intoL (prC er 17) (f :: fs) gs (Val.putF out g) = R := by rw [← hr]; conv => rhs; rw [intoL, if_neg lt, if_pos gt]
    rcases ol with _ | ⟨oc, ol⟩
    ·repeat with_reducible refine jR (J2 (lenC qc fl) (lenC rc gl)) ?_
     (with_reducible refine jI qc ?_ ?_); exact rfl
     repeat with_reducible refine jR l22 ?_
     (with_reducible refine jI rc ?_ ?_); exact rfl
     repeat with_reducible refine jR (J6 m22 (cellQ k0) (cellQ j0) lt (lenC qc fl) (lenC rc gl)) ?_
     (with_reducible refine jI rc ?_ ?_); exact rfl
     repeat with_reducible refine jR m22 ?_
     (with_reducible refine jI qc ?_ ?_); exact rfl
     repeat with_reducible refine jR (J4 l22 (cellQ k0) (cellQ j0) (eq_T gt)) ?_
     (with_reducible refine jI rc ?_ ?_); exact rfl
     repeat with_reducible refine jR (J4 m22 i22 (lenC rc gl) (cellQ j1)) ?_
     refine ⟨fun hk => ?_, fun hk => ?_⟩
     ·repeat with_reducible refine jR (J2 (cellQ j1) hk) ?_
      have ho2 : [rc] = encEF (Val.putF out g) := put_enc ho hrc hk
      with_reducible refine Exists.intro ⟨(f :: fs), gs, Val.putF out g, (qc :: fl), gl, [rc], hf, hgl, ho2, hw, le_put hn (by simp only [List.length_cons]; omega), fun x hx y hy => hp x hx y (List.mem_cons_of_mem _ hy)⟩ (And.intro (by simp only [List.length_cons]; omega) ?_)
      with_reducible refine jR trivial ?_
      exact ⟨leD_tail _ _, LeR.of (cells_all m22)⟩
     ·have hk := Classical.not_not.1 hk
      repeat with_reducible refine jR (J2 (cellQ j1) hk) ?_
      with_reducible refine Exists.intro ⟨(f :: fs), gs, Val.putF out g, (qc :: fl), gl, [], hf, hgl, put_same ho hk, hw, le_put hn (by simp only [List.length_cons]; omega), fun x hx y hy => hp x hx y (List.mem_cons_of_mem _ hy)⟩ (And.intro (by simp only [List.length_cons]; omega) ?_)
      with_reducible refine jR trivial ?_
      exact leD_tail _ _
    ·repeat with_reducible refine jR (J2 (lenC qc fl) (lenC rc gl)) ?_
     (with_reducible refine jI qc ?_ ?_); exact rfl
     repeat with_reducible refine jR l22 ?_
     (with_reducible refine jI rc ?_ ?_); exact rfl
     repeat with_reducible refine jR (J6 m22 (cellQ k0) (cellQ j0) lt (lenC qc fl) (lenC rc gl)) ?_
     (with_reducible refine jI rc ?_ ?_); exact rfl
     repeat with_reducible refine jR m22 ?_
     (with_reducible refine jI qc ?_ ?_); exact rfl
     repeat with_reducible refine jR (J4 l22 (cellQ k0) (cellQ j0) (eq_T gt)) ?_
     (with_reducible refine jI rc ?_ ?_); exact rfl
     repeat with_reducible refine jR (J4 m22 i22 (lenC rc gl) (cellQ j1)) ?_
     refine ⟨fun hk => ?_, fun hk => ?_⟩
     ·repeat with_reducible refine jR (J2 (cellQ j1) hk) ?_
      with_reducible refine And.intro (le_bytes hn ho rfl) ?_
      obtain ⟨ol2, hol2⟩ : ∃ l, l = ol ++ [rc] := ⟨_, rfl⟩
      have ho2 : (oc :: ol2) = encEF (Val.putF out g) := hol2 ▸ put_enc ho hrc hk
      with_reducible refine Exists.intro ⟨(f :: fs), gs, Val.putF out g, (qc :: fl), gl, (oc :: ol2), hf, hgl, ho2, hw, le_put hn (by simp only [List.length_cons]; omega), fun x hx y hy => hp x hx y (List.mem_cons_of_mem _ hy)⟩ (And.intro (by simp only [List.length_cons]; omega) ?_)
      with_reducible refine jR trivial ?_
      exact ⟨leD_tail _ _, LeR.of (hol2 ▸ congrArg (oc :: ol ++ ·) (cells_all m22))⟩
     ·have hk := Classical.not_not.1 hk
      repeat with_reducible refine jR (J2 (cellQ j1) hk) ?_
      with_reducible refine Exists.intro ⟨(f :: fs), gs, Val.putF out g, (qc :: fl), gl, (oc :: ol), hf, hgl, put_same ho hk, hw, le_put hn (by simp only [List.length_cons]; omega), fun x hx y hy => hp x hx y (List.mem_cons_of_mem _ hy)⟩ (And.intro (by simp only [List.length_cons]; omega) ?_)
      with_reducible refine jR trivial ?_
      exact leD_tail _ _
   obtain ⟨_, cc, ev, hE, H⟩ := prC_ok (hp f (List.mem_cons_self ..) g (List.mem_cons_self ..))
   replace H := H _ _ rfl rfl
   rw [← cells_as (n := 21) (f := fun i => cellAt qc (i + 1)) (c := encE f.2) (fun i _ => by rw [hqc]; rfl), ← cells_as (n := 21) (f := fun i => cellAt rc (i + 1)) (c := encE g.2) (fun i _ => by rw [hrc]; rfl)] at H
   obtain ⟨b2, hb, y2, n2⟩ := re_nil hE
   rcases ol with _ | ⟨oc, ol⟩
   ·repeat with_reducible refine jR (J2 (lenC qc fl) (lenC rc gl)) ?_
    (with_reducible refine jI qc ?_ ?_); exact rfl
    repeat with_reducible refine jR l22 ?_
    (with_reducible refine jI rc ?_ ?_); exact rfl
    repeat with_reducible refine jR (J6 m22 (cellQ k0) (cellQ j0) lt (lenC qc fl) (lenC rc gl)) ?_
    (with_reducible refine jI rc ?_ ?_); exact rfl
    repeat with_reducible refine jR m22 ?_
    (with_reducible refine jI qc ?_ ?_); exact rfl
    repeat with_reducible refine jR (J4 l22 (cellQ k0) (cellQ j0) gt) ?_
    (with_reducible refine jI qc ?_ ?_); exact rfl
    repeat with_reducible refine jR l22 ?_
    (with_reducible refine jI rc ?_ ?_); exact rfl
    repeat with_reducible refine jR m22 ?_
    (with_reducible apply hCall); exact H _; with_reducible refine jR hb ?_
    refine ⟨fun hb2 => ?_, fun hb2 => ?_⟩
    ·obtain ⟨n, hrn, hev⟩ := y2 hb2
     have HR2 : EEr er (.bad n) c ea := by rw [← hr] at HR; rw [intoL, if_neg lt, if_neg gt, hrn] at HR; exact HR
     obtain ⟨hc, hv⟩ : c = zEd ∧ ea = ev := ⟨HR2.1, HR2.2.trans hev.symm⟩
     subst hc hv
     repeat with_reducible refine jR trivial ?_
     with_reducible refine Exists.intro (retQ ea) (And.intro ?_ ?_)
     ·with_reducible refine jR trivial ?_
      and_intros <;> exact LeD.of rfl
     ·repeat with_reducible refine jR trivial ?_
      with_reducible refine jE trivial ?_
      and_intros <;> exact LeD.of rfl
    obtain ⟨x, hrn, hcx, hev⟩ := n2 hb2
    have hw : intoL (prC er 17) fs gs (Val.putF out (f.1, x)) = R := by rw [← hr]; conv => rhs; rw [intoL, if_neg lt, if_neg gt, hrn]
    have c0 : cellAt cc 0 = .lit (.int .i64 x.kind) := by rw [hcx]; exact (cE x).1
    have cl : cc.length = 21 := by rw [hcx]; exact encE_len x
    repeat with_reducible refine jR trivial ?_
    (with_reducible refine jI qc ?_ ?_); exact rfl
    repeat with_reducible refine jR (J7 l22 m22 h22 i22 (lenC qc fl) (lenC rc gl) (cellQ c0)) ?_
    obtain ⟨nc, hnc⟩ : ∃ l, l = .lit (.int .i64 f.1) :: cc := ⟨_, rfl⟩
    have hqc2 : nc = .lit (.int .i64 (f.1, x).1) :: encE (f.1, x).2 := by rw [hnc, hcx]
    refine ⟨fun hk => ?_, fun hk => ?_⟩
    ·repeat with_reducible refine jR (J2 (cellQ c0) hk) ?_
     have ho2 : [nc] = encEF (Val.putF out (f.1, x)) := put_enc ho hqc2 hk
     with_reducible refine Exists.intro ⟨fs, gs, Val.putF out (f.1, x), fl, gl, [nc], hfl, hgl, ho2, hw, le_put hn (by simp only [List.length_cons]; omega), fun x hx y hy => hp x (List.mem_cons_of_mem _ hx) y (List.mem_cons_of_mem _ hy)⟩ (And.intro (by simp only [List.length_cons]; omega) ?_)
     with_reducible refine jR trivial ?_
     exact ⟨leD_tail _ _, leD_tail _ _, LeR.of (cells_cons k0 cl hnc)⟩
    ·have hk := Classical.not_not.1 hk
     repeat with_reducible refine jR (J2 (cellQ c0) hk) ?_
     with_reducible refine Exists.intro ⟨fs, gs, Val.putF out (f.1, x), fl, gl, [], hfl, hgl, put_same ho hk, hw, le_put hn (by simp only [List.length_cons]; omega), fun x hx y hy => hp x (List.mem_cons_of_mem _ hx) y (List.mem_cons_of_mem _ hy)⟩ (And.intro (by simp only [List.length_cons]; omega) ?_)
     with_reducible refine jR trivial ?_
     exact ⟨leD_tail _ _, leD_tail _ _⟩
   ·repeat with_reducible refine jR (J2 (lenC qc fl) (lenC rc gl)) ?_
    (with_reducible refine jI qc ?_ ?_); exact rfl
    repeat with_reducible refine jR l22 ?_
    (with_reducible refine jI rc ?_ ?_); exact rfl
    repeat with_reducible refine jR (J6 m22 (cellQ k0) (cellQ j0) lt (lenC qc fl) (lenC rc gl)) ?_
    (with_reducible refine jI rc ?_ ?_); exact rfl
    repeat with_reducible refine jR m22 ?_
    (with_reducible refine jI qc ?_ ?_); exact rfl
    repeat with_reducible refine jR (J4 l22 (cellQ k0) (cellQ j0) gt) ?_
    (with_reducible refine jI qc ?_ ?_); exact rfl
    repeat with_reducible refine jR l22 ?_
    (with_reducible refine jI rc ?_ ?_); exact rfl
    repeat with_reducible refine jR m22 ?_
    (with_reducible apply hCall); exact H _; with_reducible refine jR hb ?_
    refine ⟨fun hb2 => ?_, fun hb2 => ?_⟩
    ·obtain ⟨n, hrn, hev⟩ := y2 hb2
     have HR2 : EEr er (.bad n) c ea := by rw [← hr] at HR; rw [intoL, if_neg lt, if_neg gt, hrn] at HR; exact HR
     obtain ⟨hc, hv⟩ : c = zEd ∧ ea = ev := ⟨HR2.1, HR2.2.trans hev.symm⟩
     subst hc hv
     repeat with_reducible refine jR trivial ?_
     with_reducible refine Exists.intro (retQ ea) (And.intro ?_ ?_)
     ·with_reducible refine jR trivial ?_
      and_intros <;> exact LeD.of rfl
     ·repeat with_reducible refine jR trivial ?_
      with_reducible refine jE trivial ?_
      and_intros <;> exact LeD.of rfl
    obtain ⟨x, hrn, hcx, hev⟩ := n2 hb2
    have hw : intoL (prC er 17) fs gs (Val.putF out (f.1, x)) = R := by rw [← hr]; conv => rhs; rw [intoL, if_neg lt, if_neg gt, hrn]
    have c0 : cellAt cc 0 = .lit (.int .i64 x.kind) := by rw [hcx]; exact (cE x).1
    have cl : cc.length = 21 := by rw [hcx]; exact encE_len x
    repeat with_reducible refine jR trivial ?_
    (with_reducible refine jI qc ?_ ?_); exact rfl
    repeat with_reducible refine jR (J7 l22 m22 h22 i22 (lenC qc fl) (lenC rc gl) (cellQ c0)) ?_
    obtain ⟨nc, hnc⟩ : ∃ l, l = .lit (.int .i64 f.1) :: cc := ⟨_, rfl⟩
    have hqc2 : nc = .lit (.int .i64 (f.1, x).1) :: encE (f.1, x).2 := by rw [hnc, hcx]
    refine ⟨fun hk => ?_, fun hk => ?_⟩
    ·repeat with_reducible refine jR (J2 (cellQ c0) hk) ?_
     with_reducible refine And.intro (le_bytes hn ho rfl) ?_
     obtain ⟨ol2, hol2⟩ : ∃ l, l = ol ++ [nc] := ⟨_, rfl⟩
     have ho2 : (oc :: ol2) = encEF (Val.putF out (f.1, x)) := hol2 ▸ put_enc ho hqc2 hk
     with_reducible refine Exists.intro ⟨fs, gs, Val.putF out (f.1, x), fl, gl, (oc :: ol2), hfl, hgl, ho2, hw, le_put hn (by simp only [List.length_cons]; omega), fun x hx y hy => hp x (List.mem_cons_of_mem _ hx) y (List.mem_cons_of_mem _ hy)⟩ (And.intro (by simp only [List.length_cons]; omega) ?_)
     with_reducible refine jR trivial ?_
     exact ⟨leD_tail _ _, leD_tail _ _, LeR.of (hol2 ▸ congrArg (oc :: ol ++ ·) (cells_cons k0 cl hnc))⟩
    ·have hk := Classical.not_not.1 hk
     repeat with_reducible refine jR (J2 (cellQ c0) hk) ?_
     with_reducible refine Exists.intro ⟨fs, gs, Val.putF out (f.1, x), fl, gl, (oc :: ol), hfl, hgl, put_same ho hk, hw, le_put hn (by simp only [List.length_cons]; omega), fun x hx y hy => hp x (List.mem_cons_of_mem _ hx) y (List.mem_cons_of_mem _ hy)⟩ (And.intro (by simp only [List.length_cons]; omega) ?_)
     with_reducible refine jR trivial ?_
     exact ⟨leD_tail _ _, leD_tail _ _⟩
end Go.Proofs.YtlmbcoecipbblaaGreatDoor
