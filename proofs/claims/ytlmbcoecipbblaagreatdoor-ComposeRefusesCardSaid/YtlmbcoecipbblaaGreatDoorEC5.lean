/- compose.book, by the engine: given pair. -/
import Derived.Test.YtlmbcoecipbblaaGreatDoorGpO
set_option maxRecDepth 100000
set_option maxHeartbeats 8000000
set_option linter.unusedVariables false
set_option linter.unusedSimpArgs false
namespace Go.Proofs.YtlmbcoecipbblaaGreatDoor
open Go.RowKit
open Val (V E right cmp eright ado Res avalue esm esmF esmS esmK vmx esz eszF eszS eszK e0 swapE swapF PairP inv)
structure BX (er : Errs) (R : Res (List (V × E))) where
 fs : List (V × E)
 gs : List (V × E)
 out : List (V × E)
 fl : List (List DV)
 gl : List (List DV)
 ol : List (List DV)
 hf : fl = encEK fs
 hg : gl = encEK gs
 ho : ol = encEK out
 hr : bookL (prC er 17) fs gs out = R
 hn : out.length + (fs.length + gs.length) ≤ 90000
 hp : ∀ f ∈ fs, ∀ g ∈ gs, CoE er 17 f.2 g.2
def bookS (dc ec : List DV) (fl gl ol : List (List DV)) : Go.Proofs.YtlmbcoecipbblaaGreatDoor.St := ⟨[(2, .ptr 0 0), (3, .ptr 1 0), (4, .ptr 2 0), (5, .d fun _ => .lit .nilIface), (6, .ptr 3 0), (7, .d fun _ => .sl fl), (8, .d fun _ => .sl gl)],
   [(0, .blk (cellsP 21 dc)), (1, .blk (cellsP 21 ec)), (2, .blk (List.replicate 21 .dead)),
    (3, .blk ((.d fun _ => .lit (.int .i64 4)) :: ((zVd ++ zVd).map fun x => .d fun _ => x) ++ [.d fun _ => .lit (.slice none 0 0), .d fun _ => .lit (.bool false), .d fun _ => .lit (.string ⟨#[]⟩), .d fun _ => .lit (.string ⟨#[]⟩), .d fun _ => .lit (.slice none 0 0), rowV 4 ol]))] ++ rowO 4 64 28 ol, 6, 0⟩
def bookQ (ol : List (List DV)) : Go.Proofs.YtlmbcoecipbblaaGreatDoor.St := ⟨[(4, .ptr 0 0), (5, .d fun _ => .lit .nilIface), (6, .ptr 1 0)],
   [(0, .blk (List.replicate 21 .dead)),
    (1, .blk ((.d fun _ => .lit (.int .i64 4)) :: ((zVd ++ zVd).map fun x => .d fun _ => x) ++ [.d fun _ => .lit (.slice none 0 0), .d fun _ => .lit (.bool false), .d fun _ => .lit (.string ⟨#[]⟩), .d fun _ => .lit (.string ⟨#[]⟩), .d fun _ => .lit (.slice none 0 0), .d fun _ => .sl ol]))], 2, 0⟩
theorem encEK_app : ∀ a b : List (V × E), encEK (a ++ b) = encEK a ++ encEK b
 | [], b => by rw [encEK]; rfl
 | (n, e) :: r, b => by rw [List.cons_append, encEK, encEK, encEK_app r b]; rfl
theorem putk_enc {out : List (V × E)} {f : V × E} {ol : List (List DV)} {qc : List DV} (ho : ol = encEK out) (hq : qc = encV f.1 ++ encE f.2) (h : ¬ f.2.kind = 0) : ol ++ [qc] = encEK (Val.putK out f) := by
 rw [ho, hq, Val.putK, if_neg h, encEK_app]; obtain ⟨n, x⟩ := f; rw [show encEK [(n, x)] = [encV n ++ encE x] from by rw [encEK, encEK]]
theorem putk_same {out : List (V × E)} {f : V × E} {ol : List (List DV)} (ho : ol = encEK out) (h : f.2.kind = 0) : ol = encEK (Val.putK out f) := by rw [ho, Val.putK, if_pos h]
theorem le_putk {out : List (V × E)} {f : V × E} {a b : Nat} (h : out.length + a ≤ 90000) (h2 : b + 1 ≤ a) : (Val.putK out f).length + b ≤ 90000 := by
 unfold Val.putK; split
 ·omega
 ·rw [List.length_append]; simp only [List.length_cons, List.length_nil]; omega
theorem le_bytesk {out : List (V × E)} {a p : Nat} (h : out.length + a ≤ 90000) {ol : List (List DV)} (ho : ol = encEK out) (h2 : p = 1) : (ol.length + p) * 480 ≤ 140737488355328 := by
 rw [ho, encEK_length]; omega
theorem encEK_len : ∀ (f : List (V × E)), ∀ x ∈ encEK f, x.length = 28
 | [], x, h => by rw [encEK] at h; cases h
 | (n, e) :: r, x, h => by
  rw [encEK] at h
  rcases List.mem_cons.1 h with rfl | h
  ·rw [List.length_append, encV_len, encE_len]
  ·exact encEK_len r x h
theorem key_cells {f : V × E} {fs : List (V × E)} {fl : List (List DV)} (h : fl = encEK (f :: fs)) : ∃ qc fr, fl = qc :: fr ∧ qc = encV f.1 ++ encE f.2 ∧ fr = encEK fs ∧ qc.length = 28 ∧ cellAt qc 0 = .lit (.int .i64 f.1.kind) ∧ cellAt qc 7 = .lit (.int .i64 f.2.kind) ∧ ((∀ x ∈ fr, x.length = 28) = True) ∧
  (∀ i, i < 7 → cellAt qc i = cellAt (encV f.1) i) ∧ ∀ i, i < 21 → cellAt qc (i + 7) = cellAt (encE f.2) i := by
 obtain ⟨n, x⟩ := f
 rw [encEK] at h
 have h1 : ∀ i, i < 7 → cellAt (encV n ++ encE x) i = cellAt (encV n) i := fun i hi => cell_app1 (by rw [encV_len]; exact hi)
 have h2 : ∀ i, i < 21 → cellAt (encV n ++ encE x) (i + 7) = cellAt (encE x) i := fun i hi => cell_app2 (encV_len n)
 exact ⟨_, _, h, rfl, rfl, by rw [List.length_append, encV_len, encE_len], by rw [h1 0 (by decide)]; exact (cV n).1, (h2 0 (by decide)).trans (cE x).1, eq_T (encEK_len fs), h1, h2⟩
theorem book_run (er : Errs) (d e : E) (hg : CoGood d e) (R : Res (List (V × E))) (hR : bookL (prC er 17) d.keys e.keys [] = R) (hpk : ∀ f ∈ d.keys, ∀ g ∈ e.keys, CoE er 17 f.2 g.2)
  {f0 g0 : V × E} {fs0 gs0 : List (V × E)} (hdk : d.keys = f0 :: fs0) (hek : e.keys = g0 :: gs0) (hkk : f0.1.kind = g0.1.kind) (c : List DV) (ea : DV) (HR : EEr er (Val.bookA R) c ea) (dc ec : List DV) (hd : dc = encE d) (he : ec = encE e) (fr : List Nat) :
  PRun Tryz.prog (gE er) 67 [.agg (cellsP 21 dc), .agg (cellsP 21 ec)] [] fr (.tup [.agg (cellsP 21 c), .d fun _ => ea]) [] := by
 obtain ⟨fl0, hfl0⟩ : ∃ l, l = encEK d.keys := ⟨_, rfl⟩
 obtain ⟨gl0, hgl0⟩ : ∃ l, l = encEK e.keys := ⟨_, rfl⟩
 have D20 : cellAt dc 20 = .sl fl0 := by rw [hd, hfl0]; exact (cE d).2.2.2.2.2.2.2.2
 have E20 : cellAt ec 20 = .sl gl0 := by rw [he, hgl0]; exact (cE e).2.2.2.2.2.2.2.2
 obtain ⟨qc, fl, hq1, hqc, hfl, l22, k0, k1, h22, kv, ke⟩ := key_cells (f := f0) (fs := fs0) (hfl0.trans (by rw [hdk]))
 obtain ⟨rc, gl, hq2, hrc, hgl, m22, j0, j1, i22, jv, je⟩ := key_cells (f := g0) (fs := gs0) (hgl0.trans (by rw [hek]))
 refine PRun.pure (xs := [.agg (cellsP 21 dc), .agg (cellsP 21 ec)]) (r1 := .tup [.agg (cellsP 21 c), .d fun _ => ea]) tI_ok (by kernel_rfl) Tryz.func67 rfl rfl (by kernel_rfl) ?_
 repeat with_reducible refine jR (J4 (cellQ D20) (cellQ E20) hq1 hq2) ?_
 (with_reducible refine jI qc ?_ ?_); exact rfl
 repeat with_reducible refine jR (J4 (cellQ D20) (cellQ E20) l22 hq2) ?_
 (with_reducible refine jI rc ?_ ?_); exact rfl
 repeat with_reducible refine jR (J6 (cellQ D20) (cellQ E20) m22 (cellQ k0) (cellQ j0) hkk) ?_
 clear hq1 hq2 hqc hrc hfl hgl l22 k0 k1 h22 kv ke m22 j0 j1 i22 jv je hkk hdk hek
 refine hLoop (loop_okC (ι := BX er R) tI_ok (by kernel_rfl) (fun x => bookS dc ec x.fl x.gl x.ol) (fun x => x.fs.length + x.gs.length)
  ⟨d.keys, e.keys, [], fl0, gl0, [], hfl0, hgl0, by rw [encEK], hR, (by have h1 := eszK_length d.keys; have h2 := eszK_length e.keys; have h3 := (Val.esz_parts d).2.2.2.2; have h4 := (Val.esz_parts e).2.2.2.2; have h5 := hg.sz; simp only [List.length_nil]; omega), hpk⟩ ?_ (fun x => ?_))
 ·with_reducible refine jR (J2 D20 E20) ?_
  and_intros <;> exact LeD.of rfl
 obtain ⟨fs, gs, out, fl, gl, ol, hf, hg, ho, hr, hn, hp⟩ := x
 show holds _ _ _ (ev tI (gE er) _ _ (bookS dc ec fl gl ol)) _
 cases fs with
 | nil =>
  obtain rfl : fl = [] := by rw [hf, encEK]
  cases gs with
  | nil =>
   obtain rfl : gl = [] := by rw [hg, encEK]
   have hout : R = .ok out := by rw [← hr, bookL]
   rw [hout, Val.bookA] at HR
   rcases ol with _ | ⟨oc, ol⟩
   ·repeat with_reducible refine jR lenN ?_
    with_reducible refine Exists.intro (bookQ []) (And.intro ?_ ?_)
    ·with_reducible refine jR trivial ?_
     trivial
    obtain rfl : out = [] := by cases out with | nil => rfl | cons q r => obtain ⟨n, y⟩ := q; rw [encEK] at ho; cases ho
    obtain ⟨hc, hv⟩ : c = encE e0 ∧ ea = .lit .nilIface := HR
    repeat with_reducible refine jR lenN ?_
    with_reducible refine jE trivial ?_
    subst hc hv
    simp only [e0, Val.v0, cE21, cV, eZ, eS]
   ·repeat with_reducible refine jR lenN ?_
    with_reducible refine Exists.intro (bookQ (oc :: ol)) (And.intro ?_ ?_)
    ·with_reducible refine jR trivial ?_
     trivial
    rw [if_neg (fun h => by rw [h, encEK] at ho; cases ho)] at HR
    obtain ⟨hc, hv⟩ : c = encE (Val.bookE out) ∧ ea = .lit .nilIface := HR
    repeat with_reducible refine jR (lenC oc ol) ?_
    with_reducible refine jE trivial ?_
    subst hc hv
    simp only [Val.bookE, Val.v0, cE21, cV, eZ, eS, ← ho]
  | cons g gs =>
   obtain ⟨qc, gl, rfl, hqc, hgl, l22, k0, k1, h22, kv, ke⟩ := key_cells hg
   have hw : bookL (prC er 17) [] gs (Val.putK out g) = R := by rw [← hr, bookL]
   rcases ol with _ | ⟨oc, ol⟩
   ·repeat with_reducible refine jR (J2 (lenC qc gl) lenN) ?_
    (with_reducible refine jI qc ?_ ?_); exact rfl
    repeat with_reducible refine jR (J4 l22 h22 (lenC qc gl) (cellQ k1)) ?_
    refine ⟨fun hk => ?_, fun hk => ?_⟩
    ·repeat with_reducible refine jR (J2 (cellQ k1) hk) ?_
     have ho2 : [qc] = encEK (Val.putK out g) := putk_enc ho hqc hk
     with_reducible refine Exists.intro ⟨[], gs, Val.putK out g, [], gl, [qc], rfl, hgl, ho2, hw, le_putk hn (by simp only [List.length_cons]; omega), fun x hx y hy => hp x hx y (List.mem_cons_of_mem _ hy)⟩ (And.intro (by simp) ?_)
     with_reducible refine jR trivial ?_
     exact ⟨leD_tail _ _, LeR.of (cells_all l22)⟩
    ·have hk := Classical.not_not.1 hk
     repeat with_reducible refine jR (J2 (cellQ k1) hk) ?_
     with_reducible refine Exists.intro ⟨[], gs, Val.putK out g, [], gl, [], rfl, hgl, putk_same ho hk, hw, le_putk hn (by simp only [List.length_cons]; omega), fun x hx y hy => hp x hx y (List.mem_cons_of_mem _ hy)⟩ (And.intro (by simp) ?_)
     with_reducible refine jR trivial ?_
     exact leD_tail _ _
   ·repeat with_reducible refine jR (J2 (lenC qc gl) lenN) ?_
    (with_reducible refine jI qc ?_ ?_); exact rfl
    repeat with_reducible refine jR (J4 l22 h22 (lenC qc gl) (cellQ k1)) ?_
    refine ⟨fun hk => ?_, fun hk => ?_⟩
    ·repeat with_reducible refine jR (J2 (cellQ k1) hk) ?_
     with_reducible refine And.intro (le_bytesk hn ho rfl) ?_
     obtain ⟨ol2, hol2⟩ : ∃ l, l = ol ++ [qc] := ⟨_, rfl⟩
     have ho2 : (oc :: ol2) = encEK (Val.putK out g) := hol2 ▸ putk_enc ho hqc hk
     with_reducible refine Exists.intro ⟨[], gs, Val.putK out g, [], gl, (oc :: ol2), rfl, hgl, ho2, hw, le_putk hn (by simp only [List.length_cons]; omega), fun x hx y hy => hp x hx y (List.mem_cons_of_mem _ hy)⟩ (And.intro (by simp) ?_)
     with_reducible refine jR trivial ?_
     exact ⟨leD_tail _ _, LeR.of (hol2 ▸ congrArg (oc :: ol ++ ·) (cells_all l22))⟩
    ·have hk := Classical.not_not.1 hk
     repeat with_reducible refine jR (J2 (cellQ k1) hk) ?_
     with_reducible refine Exists.intro ⟨[], gs, Val.putK out g, [], gl, (oc :: ol), rfl, hgl, putk_same ho hk, hw, le_putk hn (by simp only [List.length_cons]; omega), fun x hx y hy => hp x hx y (List.mem_cons_of_mem _ hy)⟩ (And.intro (by simp) ?_)
     with_reducible refine jR trivial ?_
     exact leD_tail _ _
 | cons f fs =>
  obtain ⟨qc, fl, rfl, hqc, hfl, l22, k0, k1, h22, kv, ke⟩ := key_cells hf
  cases gs with
  | nil =>
   obtain rfl : gl = [] := by rw [hg, encEK]
   have hw : bookL (prC er 17) fs [] (Val.putK out f) = R := by rw [← hr, bookL]
   rcases ol with _ | ⟨oc, ol⟩
   ·repeat with_reducible refine jR (J2 (lenC qc fl) lenN) ?_
    (with_reducible refine jI qc ?_ ?_); exact rfl
    repeat with_reducible refine jR (J4 l22 h22 (lenC qc fl) (cellQ k1)) ?_
    refine ⟨fun hk => ?_, fun hk => ?_⟩
    ·repeat with_reducible refine jR (J2 (cellQ k1) hk) ?_
     have ho2 : [qc] = encEK (Val.putK out f) := putk_enc ho hqc hk
     with_reducible refine Exists.intro ⟨fs, [], Val.putK out f, fl, [], [qc], hfl, rfl, ho2, hw, le_putk hn (by simp only [List.length_cons]; omega), fun x hx y hy => hp x (List.mem_cons_of_mem _ hx) y hy⟩ (And.intro (by simp) ?_)
     with_reducible refine jR trivial ?_
     exact ⟨leD_tail _ _, LeR.of (cells_all l22)⟩
    ·have hk := Classical.not_not.1 hk
     repeat with_reducible refine jR (J2 (cellQ k1) hk) ?_
     with_reducible refine Exists.intro ⟨fs, [], Val.putK out f, fl, [], [], hfl, rfl, putk_same ho hk, hw, le_putk hn (by simp only [List.length_cons]; omega), fun x hx y hy => hp x (List.mem_cons_of_mem _ hx) y hy⟩ (And.intro (by simp) ?_)
     with_reducible refine jR trivial ?_
     exact leD_tail _ _
   ·repeat with_reducible refine jR (J2 (lenC qc fl) lenN) ?_
    (with_reducible refine jI qc ?_ ?_); exact rfl
    repeat with_reducible refine jR (J4 l22 h22 (lenC qc fl) (cellQ k1)) ?_
    refine ⟨fun hk => ?_, fun hk => ?_⟩
    ·repeat with_reducible refine jR (J2 (cellQ k1) hk) ?_
     with_reducible refine And.intro (le_bytesk hn ho rfl) ?_
     obtain ⟨ol2, hol2⟩ : ∃ l, l = ol ++ [qc] := ⟨_, rfl⟩
     have ho2 : (oc :: ol2) = encEK (Val.putK out f) := hol2 ▸ putk_enc ho hqc hk
     with_reducible refine Exists.intro ⟨fs, [], Val.putK out f, fl, [], (oc :: ol2), hfl, rfl, ho2, hw, le_putk hn (by simp only [List.length_cons]; omega), fun x hx y hy => hp x (List.mem_cons_of_mem _ hx) y hy⟩ (And.intro (by simp) ?_)
     with_reducible refine jR trivial ?_
     exact ⟨leD_tail _ _, LeR.of (hol2 ▸ congrArg (oc :: ol ++ ·) (cells_all l22))⟩
    ·have hk := Classical.not_not.1 hk
     repeat with_reducible refine jR (J2 (cellQ k1) hk) ?_
     with_reducible refine Exists.intro ⟨fs, [], Val.putK out f, fl, [], (oc :: ol), hfl, rfl, putk_same ho hk, hw, le_putk hn (by simp only [List.length_cons]; omega), fun x hx y hy => hp x (List.mem_cons_of_mem _ hx) y hy⟩ (And.intro (by simp) ?_)
     with_reducible refine jR trivial ?_
     exact leD_tail _ _
  | cons g gs =>
   obtain ⟨rc, gl, rfl, hrc, hgl, m22, j0, j1, i22, jv, je⟩ := key_cells hg
   have HC1 := fun fr => compare_run (G := gE er) (rfl : encV f.1 = _) (rfl : encV g.1 = _) fr
   have HC2 := fun fr => compare_run (G := gE er) (rfl : encV g.1 = _) (rfl : encV f.1 = _) fr
   rw [← cells_as (n := 7) (f := fun i => cellAt qc i) kv, ← cells_as (n := 7) (f := fun i => cellAt rc i) jv] at HC1 HC2
   by_cases lt : cmp f.1 g.1 < 0
   ·have hw : bookL (prC er 17) fs (g :: gs) (Val.putK out f) = R := by rw [← hr]; conv => rhs; rw [bookL, if_pos lt]
    rcases ol with _ | ⟨oc, ol⟩
    ·repeat with_reducible refine jR (J2 (lenC qc fl) (lenC rc gl)) ?_
     (with_reducible refine jI qc ?_ ?_); exact rfl
     repeat with_reducible refine jR l22 ?_
     (with_reducible refine jI rc ?_ ?_); exact rfl
     repeat with_reducible refine jR m22 ?_
     (with_reducible apply hCall); exact HC1 _; with_reducible refine jR (eq_T lt) ?_
     repeat with_reducible refine jR trivial ?_
     (with_reducible refine jI qc ?_ ?_); exact rfl
     repeat with_reducible refine jR (J4 l22 h22 (lenC qc fl) (cellQ k1)) ?_
     refine ⟨fun hk => ?_, fun hk => ?_⟩
     ·repeat with_reducible refine jR (J2 (cellQ k1) hk) ?_
      have ho2 : [qc] = encEK (Val.putK out f) := putk_enc ho hqc hk
      with_reducible refine Exists.intro ⟨fs, (g :: gs), Val.putK out f, fl, (rc :: gl), [qc], hfl, hg, ho2, hw, le_putk hn (by simp only [List.length_cons]; omega), fun x hx y hy => hp x (List.mem_cons_of_mem _ hx) y hy⟩ (And.intro (by simp only [List.length_cons]; omega) ?_)
      with_reducible refine jR trivial ?_
      exact ⟨leD_tail _ _, LeR.of (cells_all l22)⟩
     ·have hk := Classical.not_not.1 hk
      repeat with_reducible refine jR (J2 (cellQ k1) hk) ?_
      with_reducible refine Exists.intro ⟨fs, (g :: gs), Val.putK out f, fl, (rc :: gl), [], hfl, hg, putk_same ho hk, hw, le_putk hn (by simp only [List.length_cons]; omega), fun x hx y hy => hp x (List.mem_cons_of_mem _ hx) y hy⟩ (And.intro (by simp only [List.length_cons]; omega) ?_)
      with_reducible refine jR trivial ?_
      exact leD_tail _ _
    ·repeat with_reducible refine jR (J2 (lenC qc fl) (lenC rc gl)) ?_
     (with_reducible refine jI qc ?_ ?_); exact rfl
     repeat with_reducible refine jR l22 ?_
     (with_reducible refine jI rc ?_ ?_); exact rfl
     repeat with_reducible refine jR m22 ?_
     (with_reducible apply hCall); exact HC1 _; with_reducible refine jR (eq_T lt) ?_
     repeat with_reducible refine jR trivial ?_
     (with_reducible refine jI qc ?_ ?_); exact rfl
     repeat with_reducible refine jR (J4 l22 h22 (lenC qc fl) (cellQ k1)) ?_
     refine ⟨fun hk => ?_, fun hk => ?_⟩
     ·repeat with_reducible refine jR (J2 (cellQ k1) hk) ?_
      with_reducible refine And.intro (le_bytesk hn ho rfl) ?_
      obtain ⟨ol2, hol2⟩ : ∃ l, l = ol ++ [qc] := ⟨_, rfl⟩
      have ho2 : (oc :: ol2) = encEK (Val.putK out f) := hol2 ▸ putk_enc ho hqc hk
      with_reducible refine Exists.intro ⟨fs, (g :: gs), Val.putK out f, fl, (rc :: gl), (oc :: ol2), hfl, hg, ho2, hw, le_putk hn (by simp only [List.length_cons]; omega), fun x hx y hy => hp x (List.mem_cons_of_mem _ hx) y hy⟩ (And.intro (by simp only [List.length_cons]; omega) ?_)
      with_reducible refine jR trivial ?_
      exact ⟨leD_tail _ _, LeR.of (hol2 ▸ congrArg (oc :: ol ++ ·) (cells_all l22))⟩
     ·have hk := Classical.not_not.1 hk
      repeat with_reducible refine jR (J2 (cellQ k1) hk) ?_
      with_reducible refine Exists.intro ⟨fs, (g :: gs), Val.putK out f, fl, (rc :: gl), (oc :: ol), hfl, hg, putk_same ho hk, hw, le_putk hn (by simp only [List.length_cons]; omega), fun x hx y hy => hp x (List.mem_cons_of_mem _ hx) y hy⟩ (And.intro (by simp only [List.length_cons]; omega) ?_)
      with_reducible refine jR trivial ?_
      exact leD_tail _ _
   by_cases gt : cmp g.1 f.1 < 0
   ·have hw : bookL (prC er 17) (f :: fs) gs (Val.putK out g) = R := by rw [← hr]; conv => rhs; rw [bookL, if_neg lt, if_pos gt]
    rcases ol with _ | ⟨oc, ol⟩
    ·repeat with_reducible refine jR (J2 (lenC qc fl) (lenC rc gl)) ?_
     (with_reducible refine jI qc ?_ ?_); exact rfl
     repeat with_reducible refine jR l22 ?_
     (with_reducible refine jI rc ?_ ?_); exact rfl
     repeat with_reducible refine jR m22 ?_
     (with_reducible apply hCall); exact HC1 _; with_reducible refine jR lt ?_
     repeat with_reducible refine jR (J2 (lenC qc fl) (lenC rc gl)) ?_
     (with_reducible refine jI rc ?_ ?_); exact rfl
     repeat with_reducible refine jR m22 ?_
     (with_reducible refine jI qc ?_ ?_); exact rfl
     repeat with_reducible refine jR l22 ?_
     (with_reducible apply hCall); exact HC2 _; with_reducible refine jR (eq_T gt) ?_
     repeat with_reducible refine jR trivial ?_
     (with_reducible refine jI rc ?_ ?_); exact rfl
     repeat with_reducible refine jR (J4 m22 i22 (lenC rc gl) (cellQ j1)) ?_
     refine ⟨fun hk => ?_, fun hk => ?_⟩
     ·repeat with_reducible refine jR (J2 (cellQ j1) hk) ?_
      have ho2 : [rc] = encEK (Val.putK out g) := putk_enc ho hrc hk
      with_reducible refine Exists.intro ⟨(f :: fs), gs, Val.putK out g, (qc :: fl), gl, [rc], hf, hgl, ho2, hw, le_putk hn (by simp only [List.length_cons]; omega), fun x hx y hy => hp x hx y (List.mem_cons_of_mem _ hy)⟩ (And.intro (by simp only [List.length_cons]; omega) ?_)
      with_reducible refine jR trivial ?_
      exact ⟨leD_tail _ _, LeR.of (cells_all m22)⟩
     ·have hk := Classical.not_not.1 hk
      repeat with_reducible refine jR (J2 (cellQ j1) hk) ?_
      with_reducible refine Exists.intro ⟨(f :: fs), gs, Val.putK out g, (qc :: fl), gl, [], hf, hgl, putk_same ho hk, hw, le_putk hn (by simp only [List.length_cons]; omega), fun x hx y hy => hp x hx y (List.mem_cons_of_mem _ hy)⟩ (And.intro (by simp only [List.length_cons]; omega) ?_)
      with_reducible refine jR trivial ?_
      exact leD_tail _ _
    ·repeat with_reducible refine jR (J2 (lenC qc fl) (lenC rc gl)) ?_
     (with_reducible refine jI qc ?_ ?_); exact rfl
     repeat with_reducible refine jR l22 ?_
     (with_reducible refine jI rc ?_ ?_); exact rfl
     repeat with_reducible refine jR m22 ?_
     (with_reducible apply hCall); exact HC1 _; with_reducible refine jR lt ?_
     repeat with_reducible refine jR (J2 (lenC qc fl) (lenC rc gl)) ?_
     (with_reducible refine jI rc ?_ ?_); exact rfl
     repeat with_reducible refine jR m22 ?_
     (with_reducible refine jI qc ?_ ?_); exact rfl
     repeat with_reducible refine jR l22 ?_
     (with_reducible apply hCall); exact HC2 _; with_reducible refine jR (eq_T gt) ?_
     repeat with_reducible refine jR trivial ?_
     (with_reducible refine jI rc ?_ ?_); exact rfl
     repeat with_reducible refine jR (J4 m22 i22 (lenC rc gl) (cellQ j1)) ?_
     refine ⟨fun hk => ?_, fun hk => ?_⟩
     ·repeat with_reducible refine jR (J2 (cellQ j1) hk) ?_
      with_reducible refine And.intro (le_bytesk hn ho rfl) ?_
      obtain ⟨ol2, hol2⟩ : ∃ l, l = ol ++ [rc] := ⟨_, rfl⟩
      have ho2 : (oc :: ol2) = encEK (Val.putK out g) := hol2 ▸ putk_enc ho hrc hk
      with_reducible refine Exists.intro ⟨(f :: fs), gs, Val.putK out g, (qc :: fl), gl, (oc :: ol2), hf, hgl, ho2, hw, le_putk hn (by simp only [List.length_cons]; omega), fun x hx y hy => hp x hx y (List.mem_cons_of_mem _ hy)⟩ (And.intro (by simp only [List.length_cons]; omega) ?_)
      with_reducible refine jR trivial ?_
      exact ⟨leD_tail _ _, LeR.of (hol2 ▸ congrArg (oc :: ol ++ ·) (cells_all m22))⟩
     ·have hk := Classical.not_not.1 hk
      repeat with_reducible refine jR (J2 (cellQ j1) hk) ?_
      with_reducible refine Exists.intro ⟨(f :: fs), gs, Val.putK out g, (qc :: fl), gl, (oc :: ol), hf, hgl, putk_same ho hk, hw, le_putk hn (by simp only [List.length_cons]; omega), fun x hx y hy => hp x hx y (List.mem_cons_of_mem _ hy)⟩ (And.intro (by simp only [List.length_cons]; omega) ?_)
      with_reducible refine jR trivial ?_
      exact leD_tail _ _
   obtain ⟨_, cc, ev, hE, H⟩ := prC_ok (hp f (List.mem_cons_self ..) g (List.mem_cons_self ..))
   replace H := H _ _ rfl rfl
   rw [← cells_as (n := 21) (f := fun i => cellAt qc (i + 7)) ke, ← cells_as (n := 21) (f := fun i => cellAt rc (i + 7)) je] at H
   obtain ⟨b2, hb, y2, n2⟩ := re_nil hE
   rcases ol with _ | ⟨oc, ol⟩
   ·repeat with_reducible refine jR (J2 (lenC qc fl) (lenC rc gl)) ?_
    (with_reducible refine jI qc ?_ ?_); exact rfl
    repeat with_reducible refine jR l22 ?_
    (with_reducible refine jI rc ?_ ?_); exact rfl
    repeat with_reducible refine jR m22 ?_
    (with_reducible apply hCall); exact HC1 _; with_reducible refine jR lt ?_
    repeat with_reducible refine jR (J2 (lenC qc fl) (lenC rc gl)) ?_
    (with_reducible refine jI rc ?_ ?_); exact rfl
    repeat with_reducible refine jR m22 ?_
    (with_reducible refine jI qc ?_ ?_); exact rfl
    repeat with_reducible refine jR l22 ?_
    (with_reducible apply hCall); exact HC2 _; with_reducible refine jR gt ?_
    repeat with_reducible refine jR trivial ?_
    (with_reducible refine jI qc ?_ ?_); exact rfl
    repeat with_reducible refine jR l22 ?_
    (with_reducible refine jI rc ?_ ?_); exact rfl
    repeat with_reducible refine jR m22 ?_
    (with_reducible apply hCall); exact H _; with_reducible refine jR hb ?_
    refine ⟨fun hb2 => ?_, fun hb2 => ?_⟩
    ·obtain ⟨n, hrn, hev⟩ := y2 hb2
     have HR2 : EEr er (.bad n) c ea := by rw [← hr] at HR; rw [bookL, if_neg lt, if_neg gt, hrn] at HR; exact HR
     obtain ⟨hc, hv⟩ : c = zEd ∧ ea = ev := ⟨HR2.1, HR2.2.trans hev.symm⟩
     subst hc hv
     repeat with_reducible refine jR trivial ?_
     with_reducible refine Exists.intro (retQ ea) (And.intro ?_ ?_)
     ·with_reducible refine jR trivial ?_
      and_intros <;> exact LeD.of rfl
     ·repeat with_reducible refine jR trivial ?_
      with_reducible refine jE trivial ?_
      and_intros <;> exact LeD.of rfl
    obtain ⟨x, hrn, hcx, hev⟩ := n2 hb2
    have hw : bookL (prC er 17) fs gs (Val.putK out (f.1, x)) = R := by rw [← hr]; conv => rhs; rw [bookL, if_neg lt, if_neg gt, hrn]
    have c0 : cellAt cc 0 = .lit (.int .i64 x.kind) := by rw [hcx]; exact (cE x).1
    have cl : cc.length = 21 := by rw [hcx]; exact encE_len x
    repeat with_reducible refine jR trivial ?_
    (with_reducible refine jI qc ?_ ?_); exact rfl
    repeat with_reducible refine jR (J7 l22 m22 h22 i22 (lenC qc fl) (lenC rc gl) (cellQ c0)) ?_
    obtain ⟨nc, hnc⟩ : ∃ l, l = encV f.1 ++ cc := ⟨_, rfl⟩
    have hqc2 : nc = encV (f.1, x).1 ++ encE (f.1, x).2 := by rw [hnc, hcx]
    refine ⟨fun hk => ?_, fun hk => ?_⟩
    ·repeat with_reducible refine jR (J2 (cellQ c0) hk) ?_
     have ho2 : [nc] = encEK (Val.putK out (f.1, x)) := putk_enc ho hqc2 hk
     with_reducible refine Exists.intro ⟨fs, gs, Val.putK out (f.1, x), fl, gl, [nc], hfl, hgl, ho2, hw, le_putk hn (by simp only [List.length_cons]; omega), fun x hx y hy => hp x (List.mem_cons_of_mem _ hx) y (List.mem_cons_of_mem _ hy)⟩ (And.intro (by simp only [List.length_cons]; omega) ?_)
     with_reducible refine jR trivial ?_
     exact ⟨leD_tail _ _, leD_tail _ _, LeR.of (cells_two kv (encV_len f.1) cl hnc)⟩
    ·have hk := Classical.not_not.1 hk
     repeat with_reducible refine jR (J2 (cellQ c0) hk) ?_
     with_reducible refine Exists.intro ⟨fs, gs, Val.putK out (f.1, x), fl, gl, [], hfl, hgl, putk_same ho hk, hw, le_putk hn (by simp only [List.length_cons]; omega), fun x hx y hy => hp x (List.mem_cons_of_mem _ hx) y (List.mem_cons_of_mem _ hy)⟩ (And.intro (by simp only [List.length_cons]; omega) ?_)
     with_reducible refine jR trivial ?_
     exact ⟨leD_tail _ _, leD_tail _ _⟩
   ·repeat with_reducible refine jR (J2 (lenC qc fl) (lenC rc gl)) ?_
    (with_reducible refine jI qc ?_ ?_); exact rfl
    repeat with_reducible refine jR l22 ?_
    (with_reducible refine jI rc ?_ ?_); exact rfl
    repeat with_reducible refine jR m22 ?_
    (with_reducible apply hCall); exact HC1 _; with_reducible refine jR lt ?_
    repeat with_reducible refine jR (J2 (lenC qc fl) (lenC rc gl)) ?_
    (with_reducible refine jI rc ?_ ?_); exact rfl
    repeat with_reducible refine jR m22 ?_
    (with_reducible refine jI qc ?_ ?_); exact rfl
    repeat with_reducible refine jR l22 ?_
    (with_reducible apply hCall); exact HC2 _; with_reducible refine jR gt ?_
    repeat with_reducible refine jR trivial ?_
    (with_reducible refine jI qc ?_ ?_); exact rfl
    repeat with_reducible refine jR l22 ?_
    (with_reducible refine jI rc ?_ ?_); exact rfl
    repeat with_reducible refine jR m22 ?_
    (with_reducible apply hCall); exact H _; with_reducible refine jR hb ?_
    refine ⟨fun hb2 => ?_, fun hb2 => ?_⟩
    ·obtain ⟨n, hrn, hev⟩ := y2 hb2
     have HR2 : EEr er (.bad n) c ea := by rw [← hr] at HR; rw [bookL, if_neg lt, if_neg gt, hrn] at HR; exact HR
     obtain ⟨hc, hv⟩ : c = zEd ∧ ea = ev := ⟨HR2.1, HR2.2.trans hev.symm⟩
     subst hc hv
     repeat with_reducible refine jR trivial ?_
     with_reducible refine Exists.intro (retQ ea) (And.intro ?_ ?_)
     ·with_reducible refine jR trivial ?_
      and_intros <;> exact LeD.of rfl
     ·repeat with_reducible refine jR trivial ?_
      with_reducible refine jE trivial ?_
      and_intros <;> exact LeD.of rfl
    obtain ⟨x, hrn, hcx, hev⟩ := n2 hb2
    have hw : bookL (prC er 17) fs gs (Val.putK out (f.1, x)) = R := by rw [← hr]; conv => rhs; rw [bookL, if_neg lt, if_neg gt, hrn]
    have c0 : cellAt cc 0 = .lit (.int .i64 x.kind) := by rw [hcx]; exact (cE x).1
    have cl : cc.length = 21 := by rw [hcx]; exact encE_len x
    repeat with_reducible refine jR trivial ?_
    (with_reducible refine jI qc ?_ ?_); exact rfl
    repeat with_reducible refine jR (J7 l22 m22 h22 i22 (lenC qc fl) (lenC rc gl) (cellQ c0)) ?_
    obtain ⟨nc, hnc⟩ : ∃ l, l = encV f.1 ++ cc := ⟨_, rfl⟩
    have hqc2 : nc = encV (f.1, x).1 ++ encE (f.1, x).2 := by rw [hnc, hcx]
    refine ⟨fun hk => ?_, fun hk => ?_⟩
    ·repeat with_reducible refine jR (J2 (cellQ c0) hk) ?_
     with_reducible refine And.intro (le_bytesk hn ho rfl) ?_
     obtain ⟨ol2, hol2⟩ : ∃ l, l = ol ++ [nc] := ⟨_, rfl⟩
     have ho2 : (oc :: ol2) = encEK (Val.putK out (f.1, x)) := hol2 ▸ putk_enc ho hqc2 hk
     with_reducible refine Exists.intro ⟨fs, gs, Val.putK out (f.1, x), fl, gl, (oc :: ol2), hfl, hgl, ho2, hw, le_putk hn (by simp only [List.length_cons]; omega), fun x hx y hy => hp x (List.mem_cons_of_mem _ hx) y (List.mem_cons_of_mem _ hy)⟩ (And.intro (by simp only [List.length_cons]; omega) ?_)
     with_reducible refine jR trivial ?_
     exact ⟨leD_tail _ _, leD_tail _ _, LeR.of (hol2 ▸ congrArg (oc :: ol ++ ·) (cells_two kv (encV_len f.1) cl hnc))⟩
    ·have hk := Classical.not_not.1 hk
     repeat with_reducible refine jR (J2 (cellQ c0) hk) ?_
     with_reducible refine Exists.intro ⟨fs, gs, Val.putK out (f.1, x), fl, gl, (oc :: ol), hfl, hgl, putk_same ho hk, hw, le_putk hn (by simp only [List.length_cons]; omega), fun x hx y hy => hp x (List.mem_cons_of_mem _ hx) y (List.mem_cons_of_mem _ hy)⟩ (And.intro (by simp only [List.length_cons]; omega) ?_)
     with_reducible refine jR trivial ?_
     exact ⟨leD_tail _ _, leD_tail _ _⟩
end Go.Proofs.YtlmbcoecipbblaaGreatDoor
