/- invert.Of, by the engine. -/
import Derived.Test.YtlmbcoecipbblaaGreatDoorETd
set_option maxRecDepth 100000
set_option maxHeartbeats 8000000
set_option linter.unusedVariables false
set_option linter.unusedSimpArgs false
namespace Go.Proofs.YtlmbcoecipbblaaGreatDoor
open Go.RowKit
open Val (V E eright esz eszF eszS eszK inv invF invS invK tidy)
structure MX {α : Type} (enc enc' : List α → List (List DV)) (fl gl : List (List DV)) (ok : α → Prop) where
 i : Nat
 rs : List α
 ol : List (List DV)
 hd : fl.drop i = enc rs
 ho : ol ++ enc' rs = gl
 hok : ∀ x ∈ rs, ok x
theorem mx_bytes {ol X gl : List (List DV)} {p m : Nat} (ho : ol ++ X = gl) (h : gl.length ≤ 1000000) (hp : p = 1) (hm : m ≤ 1000) : (ol.length + p) * m ≤ 140737488355328 := by
 have h1 : ol.length ≤ 1000000 := by rw [← ho, List.length_append] at h; omega
 have : (ol.length + p) * m ≤ 1000001 * 1000 := Nat.mul_le_mul (by omega) hm
 omega
theorem invF_length : ∀ l : List (Int × E), (invF l).length = l.length
 | [] => by rw [invF]
 | (n, x) :: r => by rw [invF, List.length_cons, List.length_cons, invF_length r]
theorem invK_length : ∀ l : List (V × E), (invK l).length = l.length
 | [] => by rw [invK]
 | (n, x) :: r => by rw [invK, List.length_cons, List.length_cons, invK_length r]
def InvE (x : E) : Prop := ∀ (G : List (Nat × List DV)) (xc yc : List DV), xc = encE x → yc = encE (inv x) → ∀ fr, PRun Tryz.prog G 63 [.agg (cellsP 21 xc)] [] fr (.agg (cellsP 21 yc)) []
def EFn (f : FuncId) (x y : E) : Prop := ∀ (G : List (Nat × List DV)) (xc yc : List DV), xc = encE x → yc = encE y → ∀ fr, PRun Tryz.prog G f [.agg (cellsP 21 xc)] [] fr (.agg (cellsP 21 yc)) []
def inS (xc : List DV) (ls ns is_ t n : Nat) (fl : List (List DV)) (i : Nat) (ol : List (List DV)) : Go.Proofs.YtlmbcoecipbblaaGreatDoor.St := ⟨[(1, .ptr 0 0), (2, .ptr 1 0), (3, .own 2 3), (ls, .d fun _ => .sl fl), (ns, .d fun _ => .lit (.int .i64 fl.length)), (is_, .d fun _ => .lit (.int .i64 i))], [(0, .blk (cellsP 21 xc)), (1, .blk (List.replicate 21 .dead)), (2, .row 3 t n fun _ => ol)], 4, 0⟩
def inQ (xc : List DV) (gl : List (List DV)) : Go.Proofs.YtlmbcoecipbblaaGreatDoor.St := ⟨[(1, .ptr 0 0), (2, .ptr 1 0), (3, .d fun _ => .sl gl)], [(0, .blk (cellsP 21 xc)), (1, .blk (List.replicate 21 .dead))], 2, 0⟩
def isS (fl : List (List DV)) (i : Nat) (ol : List (List DV)) : Go.Proofs.YtlmbcoecipbblaaGreatDoor.St := ⟨[(3, .own 2 3), (6, .d fun _ => .sl fl), (7, .d fun _ => .lit (.int .i64 fl.length)), (8, .d fun _ => .lit (.int .i64 i))], [(2, .row 3 tST 30 fun _ => ol)], 4, 0⟩
def isQ (gl : List (List DV)) : Go.Proofs.YtlmbcoecipbblaaGreatDoor.St := ⟨[(3, .d fun _ => .sl gl)], [], 2, 0⟩
theorem swap_efn (k : Int) (o n : V) (f : List (Int × E)) (r : Bool) (ro rn : ByteArray) (s : List Stp) (ks : List (V × E)) : EFn 77 (.mk k o n f r ro rn s ks) (.mk k n o f r ro rn s ks) := fun G xc yc hx hy fr => by
 refine PRun.pure (xs := [.agg (cellsP 21 xc)]) (r1 := .agg (cellsP 21 yc)) tI_ok (by kernel_rfl) Tryz.func77 rfl rfl (by kernel_rfl) ?_
 repeat with_reducible refine jR trivial ?_
 with_reducible refine jE trivial ?_
 simp only [hx, hy, cE21, eZ, eS]
theorem into_efn (k : Int) (o n : V) (f : List (Int × E)) (r : Bool) (ro rn : ByteArray) (s : List Stp) (ks : List (V × E)) (hf : f.length ≤ 1000000) (HF : ∀ y ∈ f, InvE y.2) : EFn 78 (.mk k o n f r ro rn s ks) (.mk k o n (invF f) r rn ro s ks) := fun G xc yc hx hy fr => by
 obtain ⟨fl, hfl⟩ : ∃ z, z = encEF f := ⟨_, rfl⟩
 obtain ⟨gl, hgl⟩ : ∃ z, z = encEF (invF f) := ⟨_, rfl⟩
 have hf' : fl.length ≤ 1000000 := by rw [hfl, encEF_length]; exact hf
 have hg' : gl.length ≤ 1000000 := by rw [hgl, encEF_length, invF_length]; exact hf
 have x15 : cellAt xc 15 = .sl fl := by rw [hx, hfl]; exact (cE _).2.2.2.1
 have y15 : cellAt yc 15 = .sl gl := by rw [hy, hgl]; exact (cE _).2.2.2.1
 refine PRun.pure (xs := [.agg (cellsP 21 xc)]) (r1 := .agg (cellsP 21 yc)) tI_ok (by kernel_rfl) Tryz.func78 rfl rfl (by kernel_rfl) ?_
 repeat with_reducible refine jR (cellQ x15) ?_
 refine hLoop (loop_okC (ι := MX encEF (fun l => encEF (invF l)) fl gl (fun y : Int × E => InvE y.2)) tI_ok (by kernel_rfl) (fun x => inS xc 7 8 9 60 22 fl x.i x.ol) (fun x => x.rs.length) ⟨0, f, [], hfl, hgl.symm, HF⟩ ?_ (fun x => ?_))
 ·with_reducible refine jR trivial ?_
  and_intros <;> first | exact LeD.of rfl | exact LeD.of x15 | exact LeR.of rfl
 obtain ⟨i, rs, ol, hd, ho, hok⟩ := x
 show holds _ _ _ (ev tI G _ _ (inS xc 7 8 9 60 22 fl i ol)) _
 have hi0 := Int.natCast_nonneg i
 rcases rs with _ | ⟨⟨m, y⟩, rs⟩
 rotate_left
 ·obtain ⟨qc, hqc⟩ : ∃ z, z = DV.lit (.int .i64 m) :: encE y := ⟨_, rfl⟩
  rw [encEF, ← hqc] at hd
  obtain ⟨g1, g2, g3⟩ := drop_c hd
  have hw := wrap_ix g2 hf'
  have q8 : qc.length = 22 := by rw [hqc, List.length_cons, encE_len]
  have q0 : cellAt qc 0 = .lit (.int .i64 m) := by rw [hqc]; rfl
  obtain ⟨oc, hoc⟩ : ∃ z, z = encE y := ⟨_, rfl⟩
  obtain ⟨ic, hic⟩ : ∃ z, z = encE (inv y) := ⟨_, rfl⟩
  obtain ⟨nc, hnc⟩ : ∃ z, z = DV.lit (.int .i64 m) :: ic := ⟨_, rfl⟩
  have HY := hok _ (List.mem_cons_self ..) G oc ic hoc hic
  have HY := fun fr => (HY fr).args (args' := [.agg ((List.range 21).map fun i => (.d fun _ => cellAt qc (i + 1) : PV))]) (fun N h vs hp => by rw [cells_as (n := 21) (f := fun i => cellAt qc (i + 1)) (c := oc) (fun i _ => by rw [hqc, hoc]; rfl)] at hp; exact hp)
  obtain ⟨i2, hi2⟩ : ∃ z, z = i + 1 := ⟨_, rfl⟩
  obtain ⟨ol2, hol2⟩ : ∃ z, z = ol ++ [nc] := ⟨_, rfl⟩
  repeat with_reducible refine jR (J2 (eq_T (Int.ofNat_lt.2 g2)) (eq_T hi0)) ?_
  (with_reducible refine jI qc ?_ ?_); exact g1
  repeat with_reducible refine jR q8 ?_
  (with_reducible apply hCall); exact HY _; with_reducible refine jR trivial ?_
  repeat with_reducible refine jR trivial ?_
  with_reducible refine And.intro (mx_bytes ho hg' rfl (by decide)) ?_
  with_reducible refine hOrd (by kernel_rfl) ?_
  repeat with_reducible refine jR hw ?_
  with_reducible refine Exists.intro ⟨i2, rs, ol2, by rw [hi2]; exact g3, by rw [hol2, ← ho, show encEF (invF ((m, y) :: rs)) = nc :: encEF (invF rs) from by rw [invF, encEF, hnc, hic], List.append_assoc, List.singleton_append], fun x hx => hok x (List.mem_cons_of_mem _ hx)⟩ (And.intro (Nat.lt_succ_self _) ?_)
  with_reducible refine jR trivial ?_
  subst hi2
  and_intros <;> first | exact LeD.of rfl | exact LeD.of (by rw [hw]; rfl) | exact oE1 hol2 (cells_cons (n := 21) (cc := ic) (nc := nc) q0 (by rw [hic]; exact encE_len _) hnc)
 have hge := drop_n (hd.trans (by rw [encEF]))
 have hta : ol = gl := by rw [← ho]; show ol = ol ++ encEF (invF []); rw [invF, encEF, List.append_nil]
 repeat with_reducible refine jR hge ?_
 with_reducible refine Exists.intro (inQ xc gl) (And.intro ?_ ?_)
 ·with_reducible refine jR trivial ?_
  exact LeD.of (by rw [hta])
 repeat with_reducible refine jR trivial ?_
 with_reducible refine jE trivial ?_
 simp only [hx, hy, hgl, cE21, eZ, eS]
theorem book_efn (k : Int) (o n : V) (f : List (Int × E)) (r : Bool) (ro rn : ByteArray) (s : List Stp) (ks : List (V × E)) (hf : ks.length ≤ 1000000) (HF : ∀ y ∈ ks, InvE y.2) : EFn 80 (.mk k o n f r ro rn s ks) (.mk k o n f r ro rn s (invK ks)) := fun G xc yc hx hy fr => by
 obtain ⟨fl, hfl⟩ : ∃ z, z = encEK ks := ⟨_, rfl⟩
 obtain ⟨gl, hgl⟩ : ∃ z, z = encEK (invK ks) := ⟨_, rfl⟩
 have hf' : fl.length ≤ 1000000 := by rw [hfl, encEK_length]; exact hf
 have hg' : gl.length ≤ 1000000 := by rw [hgl, encEK_length, invK_length]; exact hf
 have x15 : cellAt xc 20 = .sl fl := by rw [hx, hfl]; exact (cE _).2.2.2.2.2.2.2.2
 have y15 : cellAt yc 20 = .sl gl := by rw [hy, hgl]; exact (cE _).2.2.2.2.2.2.2.2
 refine PRun.pure (xs := [.agg (cellsP 21 xc)]) (r1 := .agg (cellsP 21 yc)) tI_ok (by kernel_rfl) Tryz.func80 rfl rfl (by kernel_rfl) ?_
 repeat with_reducible refine jR (cellQ x15) ?_
 refine hLoop (loop_okC (ι := MX encEK (fun l => encEK (invK l)) fl gl (fun y : V × E => InvE y.2)) tI_ok (by kernel_rfl) (fun x => inS xc 7 8 9 64 28 fl x.i x.ol) (fun x => x.rs.length) ⟨0, ks, [], hfl, hgl.symm, HF⟩ ?_ (fun x => ?_))
 ·with_reducible refine jR trivial ?_
  and_intros <;> first | exact LeD.of rfl | exact LeD.of x15 | exact LeR.of rfl
 obtain ⟨i, rs, ol, hd, ho, hok⟩ := x
 show holds _ _ _ (ev tI G _ _ (inS xc 7 8 9 64 28 fl i ol)) _
 have hi0 := Int.natCast_nonneg i
 rcases rs with _ | ⟨⟨m, y⟩, rs⟩
 rotate_left
 ·obtain ⟨qc, hqc⟩ : ∃ z, z = encV m ++ encE y := ⟨_, rfl⟩
  rw [encEK, ← hqc] at hd
  obtain ⟨g1, g2, g3⟩ := drop_c hd
  have hw := wrap_ix g2 hf'
  have q8 : qc.length = 28 := by rw [hqc, List.length_append, encV_len, encE_len]
  obtain ⟨mc, hmc⟩ : ∃ z, z = encV m := ⟨_, rfl⟩
  obtain ⟨oc, hoc⟩ : ∃ z, z = encE y := ⟨_, rfl⟩
  obtain ⟨ic, hic⟩ : ∃ z, z = encE (inv y) := ⟨_, rfl⟩
  obtain ⟨nc, hnc⟩ : ∃ z, z = mc ++ ic := ⟨_, rfl⟩
  have HY := hok _ (List.mem_cons_self ..) G oc ic hoc hic
  have HY := fun fr => (HY fr).args (args' := [.agg ((List.range 21).map fun i => (.d fun _ => cellAt qc (i + 7) : PV))]) (fun N h vs hp => by rw [cells_as (n := 21) (f := fun i => cellAt qc (i + 7)) (c := oc) (fun i _ => by rw [hqc, hoc]; exact cell_app2 (encV_len m))] at hp; exact hp)
  obtain ⟨i2, hi2⟩ : ∃ z, z = i + 1 := ⟨_, rfl⟩
  obtain ⟨ol2, hol2⟩ : ∃ z, z = ol ++ [nc] := ⟨_, rfl⟩
  repeat with_reducible refine jR (J2 (eq_T (Int.ofNat_lt.2 g2)) (eq_T hi0)) ?_
  (with_reducible refine jI qc ?_ ?_); exact g1
  repeat with_reducible refine jR q8 ?_
  (with_reducible apply hCall); exact HY _; with_reducible refine jR trivial ?_
  repeat with_reducible refine jR trivial ?_
  with_reducible refine And.intro (mx_bytes ho hg' rfl (by decide)) ?_
  with_reducible refine hOrd (by kernel_rfl) ?_
  repeat with_reducible refine jR hw ?_
  with_reducible refine Exists.intro ⟨i2, rs, ol2, by rw [hi2]; exact g3, by rw [hol2, ← ho, show encEK (invK ((m, y) :: rs)) = nc :: encEK (invK rs) from by rw [invK, encEK, hnc, hic, hmc], List.append_assoc, List.singleton_append], fun x hx => hok x (List.mem_cons_of_mem _ hx)⟩ (And.intro (Nat.lt_succ_self _) ?_)
  with_reducible refine jR trivial ?_
  subst hi2
  and_intros <;> first | exact LeD.of rfl | exact LeD.of (by rw [hw]; rfl) | exact oE1 hol2 (cells_two (qc := qc) (vc := mc) (cc := ic) (nc := nc) (m := 7) (n := 21) (fun i h => by rw [hqc, hmc]; exact cell_app1 (by rw [encV_len]; exact h)) (by rw [hmc]; exact encV_len m) (by rw [hic]; exact encE_len _) hnc)
 have hge := drop_n (hd.trans (by rw [encEK]))
 have hta : ol = gl := by rw [← ho]; show ol = ol ++ encEK (invK []); rw [invK, encEK, List.append_nil]
 repeat with_reducible refine jR hge ?_
 with_reducible refine Exists.intro (inQ xc gl) (And.intro ?_ ?_)
 ·with_reducible refine jR trivial ?_
  exact LeD.of (by rw [hta])
 repeat with_reducible refine jR trivial ?_
 with_reducible refine jE trivial ?_
 simp only [hx, hy, hgl, cE21, eZ, eS]
theorem sE30 (s : Stp) : cellAt (stepC s) 0 = .lit (.int .i64 s.1) ∧ cellAt (stepC s) 1 = .lit (.int .i64 s.2.1) ∧ (∀ i, i < 7 → cellAt (stepC s) (i + 2) = cellAt (encV s.2.2.1) i) ∧ ∀ i, i < 21 → cellAt (stepC s) (i + 9) = cellAt (encE s.2.2.2) i :=
 ⟨rfl, rfl, fun i h => by show cellAt (encV s.2.2.1 ++ encE s.2.2.2) i = _; exact cell_app1 (by rw [encV_len]; exact h), fun i h => by show cellAt (encV s.2.2.1 ++ encE s.2.2.2) (i + 7) = _; exact cell_app2 (encV_len _)⟩
theorem istep_run {s : Stp} (hs : s.1 = 4 → InvE s.2.2.2) {G : List (Nat × List DV)} {sc tc : List DV} (hsc : sc = stepC s) (htc : tc = stepC (Val.invOne s)) (fr : List Nat) : PRun Tryz.prog G 105 [.agg (cellsP 30 sc)] [] fr (.agg (cellsP 30 tc)) [] := by
 obtain ⟨q0, q1, qv, qe⟩ := sE30 s
 rw [← hsc] at q0 q1 qv qe
 obtain ⟨t0, t1, tv, te⟩ := sE30 (Val.invOne s)
 rw [← htc] at t0 t1 tv te
 unfold Val.invOne at htc t0 t1 tv te
 refine PRun.pure (xs := [.agg (cellsP 30 sc)]) (r1 := .agg (cellsP 30 tc)) tI_ok (by kernel_rfl) Tryz.func105 rfl rfl (by kernel_rfl) ?_
 by_cases h2 : s.1 = 2
 ·rw [if_pos h2] at htc t0 t1 tv te
  repeat with_reducible refine jR (J2 (cellQ q0) (eq_T h2)) ?_
  with_reducible refine jE trivial ?_
  and_intros <;> first | exact LeD.of rfl | exact LeD.of (q0.trans t0.symm) | exact LeD.of (q1.trans t1.symm) | exact LeD.of ((qv _ (by decide)).trans (tv _ (by decide)).symm) | exact LeD.of ((qe _ (by decide)).trans (te _ (by decide)).symm) | exact LeD.of t0.symm | exact LeD.of (te _ (by decide)).symm
 rw [if_neg h2] at htc t0 t1 tv te
 by_cases h3 : s.1 = 3
 ·rw [if_pos h3] at htc t0 t1 tv te
  repeat with_reducible refine jR (J3 (cellQ q0) h2 (eq_T h3)) ?_
  with_reducible refine jE trivial ?_
  and_intros <;> first | exact LeD.of rfl | exact LeD.of (q0.trans t0.symm) | exact LeD.of (q1.trans t1.symm) | exact LeD.of ((qv _ (by decide)).trans (tv _ (by decide)).symm) | exact LeD.of ((qe _ (by decide)).trans (te _ (by decide)).symm) | exact LeD.of t0.symm | exact LeD.of (te _ (by decide)).symm
 rw [if_neg h3] at htc t0 t1 tv te
 by_cases h4 : s.1 = 4
 ·rw [if_pos h4] at htc t0 t1 tv te
  obtain ⟨oc, hoc⟩ : ∃ z, z = encE s.2.2.2 := ⟨_, rfl⟩
  obtain ⟨ic, hic⟩ : ∃ z, z = encE (inv s.2.2.2) := ⟨_, rfl⟩
  have HY := hs h4 G oc ic hoc hic
  have HY := fun fr => (HY fr).args (args' := [.agg ((List.range 21).map fun i => (.d fun _ => cellAt sc (i + 9) : PV))]) (fun N h vs hp => by rw [cells_as (n := 21) (f := fun i => cellAt sc (i + 9)) (c := oc) (fun i h => by rw [hoc]; exact qe i h)] at hp; exact hp)
  have te : ∀ i, i < 21 → cellAt tc (i + 9) = cellAt ic i := by rw [hic]; exact te
  rw [show ((4 : Int), s.2.1, s.2.2.1, inv s.2.2.2).1 = s.1 from h4.symm] at t0
  repeat with_reducible refine jR (J4 (cellQ q0) h2 h3 (eq_T h4)) ?_
  (with_reducible apply hCall); exact HY _; with_reducible refine jR trivial ?_
  repeat with_reducible refine jR trivial ?_
  with_reducible refine jE trivial ?_
  and_intros <;> first | exact LeD.of rfl | exact LeD.of (q0.trans t0.symm) | exact LeD.of (q1.trans t1.symm) | exact LeD.of ((qv _ (by decide)).trans (tv _ (by decide)).symm) | exact LeD.of ((qe _ (by decide)).trans (te _ (by decide)).symm) | exact LeD.of t0.symm | exact LeD.of (te _ (by decide)).symm
 rw [if_neg h4] at htc t0 t1 tv te
 repeat with_reducible refine jR (J4 (cellQ q0) h2 h3 h4) ?_
 with_reducible refine jE trivial ?_
 and_intros <;> first | exact LeD.of rfl | exact LeD.of (q0.trans t0.symm) | exact LeD.of (q1.trans t1.symm) | exact LeD.of ((qv _ (by decide)).trans (tv _ (by decide)).symm) | exact LeD.of ((qe _ (by decide)).trans (te _ (by decide)).symm) | exact LeD.of t0.symm | exact LeD.of (te _ (by decide)).symm
theorem isteps_run {l : List Stp} (hl : l.length ≤ 900000) (hn : Val.noKK 0 (invS l)) (HS : ∀ s ∈ l, s.1 = 4 → InvE s.2.2.2) {G : List (Nat × List DV)} {fl : List (List DV)} (hfl : fl = encES l) (fr : List Nat) : PRun Tryz.prog G 93 [.d fun _ => .sl fl] [] fr (.d fun _ => .sl (encES (tidy (invS l)))) [] := by
 obtain ⟨q, hq⟩ : ∃ z, z = encES (tidy (invS l)) := ⟨_, rfl⟩
 rw [← hq]
 obtain ⟨gl, hgl⟩ : ∃ z, z = encES (invS l) := ⟨_, rfl⟩
 have hf' : fl.length ≤ 1000000 := by rw [hfl, encES_length]; omega
 have hg' : gl.length ≤ 1000000 := by rw [hgl, encES_length, Val.invS_len]; omega
 have HT := fun fr => tidy_run (G := G) (l := invS l) (by rw [Val.invS_len]; exact hl) fr
 have e := (Val.tidyW_at hn (invS l).length (Nat.le_refl _)).1
 rw [List.take_length] at e
 rw [e, show (Val.tst (invS l) (invS l).length).1 ++ (Val.tst (invS l) (invS l).length).2 = tidy (invS l) from by unfold Val.tst tidy; rw [List.take_length], ← hq, ← hgl] at HT
 refine PRun.pure (xs := [.d fun _ => .sl fl]) (r1 := .d fun _ => .sl q) tI_ok (by kernel_rfl) Tryz.func93 rfl rfl (by kernel_rfl) ?_
 repeat with_reducible refine jR trivial ?_
 refine hLoop (loop_okC (ι := MX encES (fun l => encES (invS l)) fl gl (fun s : Stp => s.1 = 4 → InvE s.2.2.2)) tI_ok (by kernel_rfl) (fun x => isS fl x.i x.ol) (fun x => x.rs.length) ⟨0, l, [], hfl, hgl.symm, HS⟩ ?_ (fun x => ?_))
 ·with_reducible refine jR trivial ?_
  and_intros <;> first | exact LeD.of rfl | exact LeD.of rfl | exact LeR.of rfl
 obtain ⟨i, rs, ol, hd, ho, hok⟩ := x
 show holds _ _ _ (ev tI G _ _ (isS fl i ol)) _
 have hi0 := Int.natCast_nonneg i
 rcases rs with _ | ⟨s, rs⟩
 rotate_left
 ·obtain ⟨qc, hqc⟩ : ∃ z, z = stepC s := ⟨_, rfl⟩
  rw [stepE, show (_ :: _ :: (encV s.2.2.1 ++ encE s.2.2.2) : List DV) = stepC s from rfl, ← hqc] at hd
  obtain ⟨g1, g2, g3⟩ := drop_c hd
  have hw := wrap_ix g2 hf'
  have q8 : qc.length = 30 := by rw [hqc]; exact stepC_len s
  obtain ⟨nc, hnc⟩ : ∃ z, z = stepC (Val.invOne s) := ⟨_, rfl⟩
  have HY := fun fr => istep_run (hok _ (List.mem_cons_self ..)) (G := G) hqc hnc fr
  obtain ⟨i2, hi2⟩ : ∃ z, z = i + 1 := ⟨_, rfl⟩
  obtain ⟨ol2, hol2⟩ : ∃ z, z = ol ++ [nc] := ⟨_, rfl⟩
  repeat with_reducible refine jR (J2 (eq_T (Int.ofNat_lt.2 g2)) (eq_T hi0)) ?_
  (with_reducible refine jI qc ?_ ?_); exact g1
  repeat with_reducible refine jR q8 ?_
  (with_reducible apply hCall); exact HY _; with_reducible refine jR trivial ?_
  repeat with_reducible refine jR trivial ?_
  with_reducible refine And.intro (mx_bytes ho hg' rfl (by decide)) ?_
  repeat with_reducible refine jR hw ?_
  with_reducible refine Exists.intro ⟨i2, rs, ol2, by rw [hi2]; exact g3, by rw [hol2, ← ho, show encES (invS (s :: rs)) = nc :: encES (invS rs) from by rw [Val.invS_one, stepE, hnc, stepC], List.append_assoc, List.singleton_append], fun x hx => hok x (List.mem_cons_of_mem _ hx)⟩ (And.intro (Nat.lt_succ_self _) ?_)
  with_reducible refine jR trivial ?_
  subst hi2
  and_intros <;> first | exact LeD.of rfl | exact LeD.of (by rw [hw]; rfl) | exact oE1 hol2 (cells_all (fc := nc) (n := 30) (by rw [hnc]; exact stepC_len _))
 have hge := drop_n (hd.trans (by rw [encES]))
 have hta : ol = gl := by rw [← ho]; show ol = ol ++ encES (invS []); rw [invS, encES, List.append_nil]
 repeat with_reducible refine jR hge ?_
 with_reducible refine Exists.intro (isQ gl) (And.intro ?_ ?_)
 ·with_reducible refine jR trivial ?_
  exact LeD.of (by rw [hta])
 repeat with_reducible refine jR trivial ?_
 (with_reducible apply hCall); exact HT _; with_reducible refine jR trivial ?_
 repeat with_reducible refine jR trivial ?_
 with_reducible refine jE trivial ?_
 trivial
theorem row_efn (k : Int) (o n : V) (f : List (Int × E)) (r : Bool) (ro rn : ByteArray) (s : List Stp) (ks : List (V × E)) (hl : s.length ≤ 900000) (hn : Val.noKK 0 (invS s)) (HS : ∀ y ∈ s, y.1 = 4 → InvE y.2.2.2) : EFn 79 (.mk k o n f r ro rn s ks) (.mk k o n f r ro rn (tidy (invS s)) ks) := fun G xc yc hx hy fr => by
 obtain ⟨fl, hfl⟩ : ∃ z, z = encES s := ⟨_, rfl⟩
 obtain ⟨gl, hgl⟩ : ∃ z, z = encES (tidy (invS s)) := ⟨_, rfl⟩
 have x19 : cellAt xc 19 = .sl fl := by rw [hx, hfl]; exact (cE _).2.2.2.2.2.2.2.1
 have HT := fun fr => isteps_run hl hn HS (G := G) hfl fr
 rw [← hgl] at HT
 have HT := fun fr => (HT fr).args (args' := [.d fun _ => cellAt xc 19]) (fun N h vs hp => by rw [x19] at hp; exact hp)
 refine PRun.pure (xs := [.agg (cellsP 21 xc)]) (r1 := .agg (cellsP 21 yc)) tI_ok (by kernel_rfl) Tryz.func79 rfl rfl (by kernel_rfl) ?_
 repeat with_reducible refine jR trivial ?_
 (with_reducible apply hCall); exact HT _; with_reducible refine jR trivial ?_
 repeat with_reducible refine jR trivial ?_
 with_reducible refine jE trivial ?_
 simp only [hx, hy, hgl, cE21, eZ, eS]
theorem inv_run (x : E) (hr : eright x = true) (hz : esz x ≤ 90000) (HF : x.kind = 2 → ∀ y ∈ x.fields, InvE y.2) (HS : x.kind = 3 → ∀ y ∈ x.steps, y.1 = 4 → InvE y.2.2.2) (HK : x.kind = 4 → ∀ y ∈ x.keys, InvE y.2) : InvE x := fun G xc yc hx hy fr => by
 have hst := fun h => steps_of_right (x := x) h hr
 obtain ⟨k, o, n, f, r, ro, rn, s, ks⟩ := x
 simp only [E.kind, E.fields, E.steps, E.keys] at HF HS HK hst
 rw [esz] at hz
 have z1 := eszF_length f; have z2 := eszS_length s; have z3 := eszK_length ks
 have x0 : cellAt xc 0 = .lit (.int .i64 k) := by rw [hx]; exact (cE _).1
 rw [inv] at hy
 refine PRun.pure (xs := [.agg (cellsP 21 xc)]) (r1 := .agg (cellsP 21 yc)) tI_ok (by kernel_rfl) Tryz.func63 rfl rfl (by kernel_rfl) ?_
 by_cases h1 : k = 1
 ·rw [if_pos h1] at hy
  repeat with_reducible refine jR (J2 (cellQ x0) (eq_T h1)) ?_
  (with_reducible apply hCall); exact swap_efn k o n f r ro rn s ks G xc yc hx hy _; with_reducible refine jR trivial ?_
  repeat with_reducible refine jR trivial ?_
  with_reducible refine jE trivial ?_
  trivial
 rw [if_neg h1] at hy
 by_cases h2 : k = 2
 ·rw [if_pos h2] at hy
  repeat with_reducible refine jR (J3 (cellQ x0) h1 (eq_T h2)) ?_
  (with_reducible apply hCall); exact into_efn k o n f r ro rn s ks (by omega) (HF h2) G xc yc hx hy _; with_reducible refine jR trivial ?_
  repeat with_reducible refine jR trivial ?_
  with_reducible refine jE trivial ?_
  trivial
 rw [if_neg h2] at hy
 by_cases h3 : k = 3
 ·rw [if_pos h3] at hy
  repeat with_reducible refine jR (J4 (cellQ x0) h1 h2 (eq_T h3)) ?_
  (with_reducible apply hCall); exact row_efn k o n f r ro rn s ks (by omega) (Val.invS_right s 0 0 ((Val.esteps_iff _ _ _).1 (hst h3)).1 (fun h => by omega)) (HS h3) G xc yc hx hy _; with_reducible refine jR trivial ?_
  repeat with_reducible refine jR trivial ?_
  with_reducible refine jE trivial ?_
  trivial
 rw [if_neg h3] at hy
 by_cases h4 : k = 4
 ·rw [if_pos h4] at hy
  repeat with_reducible refine jR (J5 (cellQ x0) h1 h2 h3 (eq_T h4)) ?_
  (with_reducible apply hCall); exact book_efn k o n f r ro rn s ks (by omega) (HK h4) G xc yc hx hy _; with_reducible refine jR trivial ?_
  repeat with_reducible refine jR trivial ?_
  with_reducible refine jE trivial ?_
  trivial
 rw [if_neg h4] at hy
 repeat with_reducible refine jR (J5 (cellQ x0) h1 h2 h3 h4) ?_
 with_reducible refine jE trivial ?_
 rw [hx, hy]; simp only [eS]
mutual
theorem inv_all : ∀ x : E, eright x = true → esz x ≤ 90000 → InvE x
 | .mk k o n f r ro rn s ks, hr, hz => by
  obtain ⟨_, h⟩ := Val.eright_parts hr
  have hst := fun h => steps_of_right (x := .mk k o n f r ro rn s ks) h hr
  have hz' := hz
  rw [esz] at hz
  exact inv_run (.mk k o n f r ro rn s ks) hr hz' (fun h2 => invF_all f (by
    have h2 : k = 2 := h2
    rcases h with h | h | h | h | h
    ·omega
    ·omega
    ·exact fun e he => (h.2 e he).2
    ·omega
    ·omega) (by omega)) (fun h3 => invS_all s (fun y hy h4 => sright_edit (Val.okC_mem ((Val.esteps_iff _ _ _).1 (hst h3)).1 y hy) h4) (by omega)) (fun h4 => invK_all ks (by
    have h4 : k = 4 := h4
    rcases h with h | h | h | h | h
    ·omega
    ·omega
    ·omega
    ·omega
    ·exact fun e he => (h.2 e he).2) (by omega))
theorem invF_all : ∀ f : List (Int × E), (∀ e ∈ f, eright e.2 = true) → eszF f ≤ 90000 → ∀ x ∈ f, InvE x.2
 | [], _, _, x, hx => absurd hx (by simp)
 | (n, y) :: r, hr, hz, x, hx => by
  rw [eszF] at hz
  rcases List.mem_cons.1 hx with hx | hx
  ·rw [hx]; exact inv_all y (hr _ (List.mem_cons_self ..)) (by omega)
  ·exact invF_all r (fun e he => hr e (List.mem_cons_of_mem _ he)) (by omega) x hx
theorem invS_all : ∀ f : List Stp, (∀ e ∈ f, e.1 = 4 → eright e.2.2.2 = true) → eszS f ≤ 90000 → ∀ x ∈ f, x.1 = 4 → InvE x.2.2.2
 | [], _, _, x, hx => absurd hx (by simp)
 | (k, c, v, y) :: r, hr, hz, x, hx => by
  rw [eszS] at hz
  rcases List.mem_cons.1 hx with hx | hx
  ·rw [hx]; exact fun h4 => inv_all y (hr _ (List.mem_cons_self ..) h4) (by omega)
  ·exact invS_all r (fun e he => hr e (List.mem_cons_of_mem _ he)) (by omega) x hx
theorem invK_all : ∀ f : List (V × E), (∀ e ∈ f, eright e.2 = true) → eszK f ≤ 90000 → ∀ x ∈ f, InvE x.2
 | [], _, _, x, hx => absurd hx (by simp)
 | (n, y) :: r, hr, hz, x, hx => by
  rw [eszK] at hz
  rcases List.mem_cons.1 hx with hx | hx
  ·rw [hx]; exact inv_all y (hr _ (List.mem_cons_self ..)) (by omega)
  ·exact invK_all r (fun e he => hr e (List.mem_cons_of_mem _ he)) (by omega) x hx
end
theorem invof_run {G : List (Nat × List DV)} {x : E} {xc : List DV} (hx : xc = encE x) (hr : eright x = true) (hb : esz x ≤ 90000) :
  ∃ c, c = encE (inv x) ∧ ∀ fr, PRun Tryz.prog G 63 [.agg (cellsP 21 xc)] [] fr (.agg (cellsP 21 c)) [] := ⟨_, rfl, inv_all x hr hb G xc _ hx rfl⟩
end Go.Proofs.YtlmbcoecipbblaaGreatDoor
