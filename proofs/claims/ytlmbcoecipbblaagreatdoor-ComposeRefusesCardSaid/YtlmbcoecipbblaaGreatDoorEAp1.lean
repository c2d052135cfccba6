/- apply's swap, into and book, by the engine: given do of what lies within. -/
import Derived.Test.YtlmbcoecipbblaaGreatDoorEW
import Derived.Test.YtlmbcoecipbblaaGreatDoorGpF
set_option maxRecDepth 100000
set_option maxHeartbeats 8000000
set_option linter.unusedVariables false
set_option linter.unusedSimpArgs false
namespace Go.Proofs.YtlmbcoecipbblaaGreatDoor
open Go.RowKit
open Val (V E right cmp eright ado adoF adoS adoK Res avalue esm vmx vmxL esz eszF eszS eszK get find withV putV v0 allF allS allK mkL KI KP headKind setRest partB stepB)
def ApAt (er : Errs) (f : FuncId) (e : E) (v : V) (r : Res V) : Prop := ∃ c ev, EVr er r c ev ∧ ∀ xc vc, xc = encE e → vc = encV v → ∀ fr, PRun Tryz.prog (gE er) f [.agg (cellsP 21 xc), .agg (cellsP 7 vc)] [] fr (.tup [.agg (cellsP 7 c), .d fun _ => ev]) []
def DoE (er : Errs) (e : E) : Prop := ∀ v, right v = true → vmx v + esz e ≤ 90000 → ApAt er 76 e v (ado e v)
def apQ (ev : DV) : Go.Proofs.YtlmbcoecipbblaaGreatDoor.St := ⟨[(4, .ptr 0 0), (5, .d fun _ => ev)], [(0, .blk (zVd.map fun x => .d fun _ => x))], 1, 0⟩
theorem appart_run {G : List (Nat × List DV)} {c : List DV} {k : Int} (hk : cellAt c 0 = .lit (.int .i64 k)) (fr : List Nat) : PRun Tryz.prog G 103 [.agg (cellsP 7 c)] [] fr (.d fun _ => .lit (.bool (decide (1 ≤ k ∧ k ≤ 3)))) [] := by
 obtain ⟨b, hb⟩ : ∃ b, b = decide (1 ≤ k ∧ k ≤ 3) := ⟨_, rfl⟩
 rw [← hb]
 refine PRun.pure (xs := [.agg (cellsP 7 c)]) (r1 := .d fun _ => .lit (.bool b)) tI_ok (by kernel_rfl) Tryz.func103 rfl rfl (by kernel_rfl) ?_
 by_cases h1 : 1 ≤ k
 ·repeat with_reducible refine jR (J2 (cellQ hk) (eq_T h1)) ?_
  with_reducible refine jE trivial ?_
  exact LeD.of (by rw [hb]; simp [h1])
 ·repeat with_reducible refine jR (J2 (cellQ hk) h1) ?_
  with_reducible refine jE trivial ?_
  exact LeD.of (by rw [hb]; simp [h1])
theorem aswap_run (er : Errs) (e : E) (v : V) : ApAt er 89 e v (if cmp e.old v = 0 then .ok e.new else .bad 13) := by
 obtain ⟨c, ev, HR⟩ := rv_ex er (if cmp e.old v = 0 then .ok e.new else .bad 13)
 refine ⟨c, ev, HR, fun xc vc hx hv fr => ?_⟩
 have X := cE e; rw [← hx] at X
 obtain ⟨_, xo, xn, _⟩ := X
 obtain ⟨co, hco⟩ : ∃ z, z = encV e.old := ⟨_, rfl⟩
 rw [← hco] at xo
 have HS := fun fr => (same_run (G := gE er) hco hv fr).args (args' := [.agg ((List.range 7).map fun i => (.d fun _ => cellAt xc (i + 1) : PV)), .agg (cellsP 7 vc)]) (fun N h vs hp => by rw [cells_as (n := 7) (f := fun i => cellAt xc (i + 1)) (c := co) (fun i h => xo i h)] at hp; exact hp)
 refine PRun.pure (xs := [.agg (cellsP 21 xc), .agg (cellsP 7 vc)]) (r1 := .tup [.agg (cellsP 7 c), .d fun _ => ev]) tI_ok (by kernel_rfl) Tryz.func89 rfl rfl (by kernel_rfl) ?_
 by_cases h : cmp e.old v = 0
 ·rw [if_pos h] at HR
  rw [decide_eq_true h] at HS
  obtain ⟨hc, rfl⟩ := HR
  rw [← hc] at xn
  repeat with_reducible refine jR trivial ?_
  (with_reducible apply hCall); exact HS _; with_reducible refine jR trivial ?_
  repeat with_reducible refine jR trivial ?_
  with_reducible refine jE trivial ?_
  and_intros <;> first | exact LeD.of rfl | exact LeD.of (xn _ (by decide))
 ·rw [if_neg h] at HR
  rw [decide_eq_false h] at HS
  obtain ⟨rfl, rfl⟩ := HR
  repeat with_reducible refine jR trivial ?_
  (with_reducible apply hCall); exact HS _; with_reducible refine jR trivial ?_
  repeat with_reducible refine jR trivial ?_
  with_reducible refine jE trivial ?_
  and_intros <;> exact LeD.of rfl
structure AiX (fl : List (List DV)) (ok : Int × E → Prop) (R : Res V) where
 i : Nat
 rs : List (Int × E)
 y : V
 yc : List DV
 hd : fl.drop i = encEF rs
 hy : yc = encV y
 hr : adoF rs y = R
 hok : ∀ x ∈ rs, ok x
 hg : right y = true ∧ y.kind = 3 ∧ vmx y + eszF rs ≤ 90000
def aiS (xc : List DV) (ls ns is_ : Nat) (fl : List (List DV)) (i : Nat) (yc : List DV) : Go.Proofs.YtlmbcoecipbblaaGreatDoor.St := ⟨[(2, .ptr 0 0), (3, .ptr 1 0), (4, .ptr 2 0), (5, .d fun _ => .lit .nilIface), (ls, .d fun _ => .sl fl), (ns, .d fun _ => .lit (.int .i64 fl.length)), (is_, .d fun _ => .lit (.int .i64 i))],
 [(0, .blk (cellsP 21 xc)), (1, .blk (cellsP 7 yc)), (2, .blk (List.replicate 7 .dead))], 3, 0⟩
def aiQ (xc yc : List DV) : Go.Proofs.YtlmbcoecipbblaaGreatDoor.St := ⟨[(2, .ptr 0 0), (3, .ptr 1 0), (4, .ptr 2 0), (5, .d fun _ => .lit .nilIface)], [(0, .blk (cellsP 21 xc)), (1, .blk (cellsP 7 yc)), (2, .blk (List.replicate 7 .dead))], 3, 0⟩
def intoR (e : E) (v : V) : Res V := if v.kind = 3 then (match adoF e.fields v with
 | .bad b => .bad b
 | .ok w => if e.rests = true then (if w.rest = e.ro then .ok (setRest w e.rn) else .bad 13) else .ok w) else .bad 13
theorem ainto_run (er : Errs) (e : E) (v : V) (hr : right v = true) (hb : vmx v + esz e ≤ 90000) (hall : allF e.fields) (HF : ∀ y ∈ e.fields, DoE er y.2) : ApAt er 90 e v (intoR e v) := by
 obtain ⟨c, ev, HR⟩ := rv_ex er (intoR e v)
 refine ⟨c, ev, HR, fun xc vc hx hv fr => ?_⟩
 have pd := Val.esz_parts e
 have X := cE e; rw [← hx] at X
 obtain ⟨_, _, _, x15, x16, x17, x18, _⟩ := X
 have V0 := (cV v).1; rw [← hv] at V0
 obtain ⟨fl, hfl⟩ : ∃ z, z = encEF e.fields := ⟨_, rfl⟩
 rw [← hfl] at x15
 obtain ⟨kv, hkv⟩ : ∃ z, z = v.kind := ⟨_, rfl⟩
 unfold intoR at HR
 rw [← hkv] at V0 HR
 refine PRun.pure (xs := [.agg (cellsP 21 xc), .agg (cellsP 7 vc)]) (r1 := .tup [.agg (cellsP 7 c), .d fun _ => ev]) tI_ok (by kernel_rfl) Tryz.func90 rfl rfl (by kernel_rfl) ?_
 by_cases k3 : kv = 3
 rotate_left
 ·rw [if_neg k3] at HR
  obtain ⟨rfl, rfl⟩ := HR
  repeat with_reducible refine jR (J2 (cellQ V0) k3) ?_
  with_reducible refine jE trivial ?_
  and_intros <;> exact LeD.of rfl
 rw [if_pos k3] at HR
 obtain ⟨R, hR⟩ : ∃ z, z = adoF e.fields v := ⟨_, rfl⟩
 rw [← hR] at HR
 repeat with_reducible refine jR (J3 (cellQ V0) (eq_T k3) (cellQ x15)) ?_
 refine hLoop (loop_okK (ι := AiX fl (fun x => KI x.1 ∧ eright x.2 = true ∧ DoE er x.2) R) tI_ok (by kernel_rfl) (fun x => aiS xc 16 17 18 fl x.i x.yc) (fun x => x.rs.length) ⟨0, e.fields, v, vc, hfl, hv, hR.symm, fun x h => ⟨(hall x h).1, (hall x h).2, HF x h⟩, hr, hkv ▸ k3, by omega⟩ ?_ (fun x kn => ?_))
 ·with_reducible refine jR trivial ?_
  and_intros <;> first | exact LeD.of rfl | exact LeD.of x15
 obtain ⟨i, rs, y, yc, hd, hy, hrr, hok, hg1, hg2, hg3⟩ := x
 show holds _ _ _ (Go.Proofs.YtlmbcoecipbblaaGreatDoor.ev tI (gE er) _ _ (aiS xc 16 17 18 fl i yc)) _
 have hmx := kn.1 16 _ fl rfl rfl
 clear kn
 have hi0 := Int.natCast_nonneg i
 rcases rs with _ | ⟨⟨m, y2⟩, rs⟩
 rotate_left
 ·obtain ⟨qc, hqc⟩ : ∃ z, z = DV.lit (.int .i64 m) :: encE y2 := ⟨_, rfl⟩
  rw [encEF, ← hqc] at hd
  obtain ⟨g1, g2, g3⟩ := drop_c hd
  have hw := wrap_mx g2 hmx
  have q8 : qc.length = 22 := by rw [hqc, List.length_cons, encE_len]
  have q0 : cellAt qc 0 = .lit (.int .i64 m) := by rw [hqc]; rfl
  obtain ⟨oc, hoc⟩ : ∃ z, z = encE y2 := ⟨_, rfl⟩
  obtain ⟨hK, hE, HD⟩ : KI m ∧ eright y2 = true ∧ DoE er y2 := hok _ (List.mem_cons_self ..)
  have hG := Val.right_get hg1 hg2 hK
  rw [eszF] at hg3
  have hgv := Val.get_vmx y m
  have hyf := Val.vmx_parts y
  obtain ⟨gc, hgc⟩ : ∃ z, z = encV (get y m) := ⟨_, rfl⟩
  have HG := fun fr => get_run (G := gE er) hy q0 hgc (Val.mono_fields hg1 hg2 hK) (by omega) fr
  obtain ⟨c1, ev1, h1, H1⟩ := HD (get y m) hG (by omega)
  have H1 := fun fr => H1 oc gc hoc hgc fr
  have H1 := fun fr => (H1 fr).args (args' := [.agg ((List.range 21).map fun i => (.d fun _ => cellAt qc (i + 1) : PV)), .agg (cellsP 7 gc)]) (fun N h vs hp => by rw [cells_as (n := 21) (f := fun i => cellAt qc (i + 1)) (c := oc) (fun i _ => by rw [hqc, hoc]; rfl)] at hp; exact hp)
  have hrr2 : (match ado y2 (get y m) with | .bad b => .bad b | .ok x => adoF rs (withV y m x)) = R := by rw [← hrr, adoF]; rfl
  obtain ⟨b1, q1, y1, n1⟩ := rv_nil h1
  obtain ⟨i2, hi2⟩ : ∃ z, z = i + 1 := ⟨_, rfl⟩
  cases b1
  ·obtain ⟨x, hx1, hc1, he1⟩ := n1 rfl
   rw [hx1] at hrr2
   simp only at hrr2
   have hrx := Val.ado_right _ _ _ hE hG hx1
   have h4 := Val.with_vmx y m x
   have h5 := Val.ado_vmx _ _ _ hx1
   obtain ⟨wc, hwc⟩ : ∃ z, z = encV (withV y m x) := ⟨_, rfl⟩
   have HW := fun fr => with_run (G := gE er) hy q0 hc1 hwc (Val.mono_fields hg1 hg2 hK) (by omega) fr
   repeat with_reducible refine jR (J2 (eq_T (Int.ofNat_lt.2 g2)) (eq_T hi0)) ?_
   (with_reducible refine jI qc ?_ ?_); exact g1
   repeat with_reducible refine jR q8 ?_
   (with_reducible apply hCall); exact HG _; with_reducible refine jR trivial ?_
   repeat with_reducible refine jR trivial ?_
   (with_reducible apply hCall); exact H1 _; with_reducible refine jR q1 ?_
   repeat with_reducible refine jR q1 ?_
   (with_reducible apply hCall); exact HW _; with_reducible refine jR hw ?_
   repeat with_reducible refine jR hw ?_
   have hrw := Val.right_with hg1 hg2 hK hrx
   have hkw := Val.kind_with (x := x) (n := m) hg2
   obtain ⟨z, hz⟩ : ∃ z, z = withV y m x := ⟨_, rfl⟩
   rw [← hz] at hwc hrr2 hrw hkw h4
   with_reducible refine Exists.intro ⟨i2, rs, z, wc, by rw [hi2]; exact g3, hwc, hrr2, fun x hx => hok x (List.mem_cons_of_mem _ hx), hrw, hkw, by omega⟩ (And.intro (Nat.lt_succ_self _) ?_)
   with_reducible refine jR trivial ?_
   subst hi2
   and_intros <;> first | exact LeD.of rfl | exact LeD.of (by rw [hw]; rfl)
  ·obtain ⟨nb, hb1, he1⟩ := y1 rfl
   rw [hb1] at hrr2
   subst hrr2
   obtain ⟨rfl, rfl⟩ : c = zVd ∧ ev = .lit (er.of nb) := HR
   repeat with_reducible refine jR (J2 (eq_T (Int.ofNat_lt.2 g2)) (eq_T hi0)) ?_
   (with_reducible refine jI qc ?_ ?_); exact g1
   repeat with_reducible refine jR q8 ?_
   (with_reducible apply hCall); exact HG _; with_reducible refine jR trivial ?_
   repeat with_reducible refine jR trivial ?_
   (with_reducible apply hCall); exact H1 _; with_reducible refine jR q1 ?_
   repeat with_reducible refine jR q1 ?_
   with_reducible refine Exists.intro (apQ ev1) (And.intro ?_ ?_)
   ·with_reducible refine jR trivial ?_
    and_intros <;> exact LeD.of rfl
   repeat with_reducible refine jR trivial ?_
   with_reducible refine jE trivial ?_
   and_intros <;> first | exact LeD.of rfl | exact LeD.of he1
 have hge := drop_n (hd.trans (by rw [encEF]))
 have hRy : R = .ok y := by rw [← hrr, adoF]
 rw [hRy] at HR
 repeat with_reducible refine jR hge ?_
 with_reducible refine Exists.intro (aiQ xc yc) (And.intro ?_ ?_)
 ·with_reducible refine jR trivial ?_
  trivial
 obtain ⟨rb, hrb⟩ : ∃ z, z = e.rests := ⟨_, rfl⟩
 rw [← hrb] at x16
 simp only [← hrb] at HR
 have Y := cV y; rw [← hy] at Y
 cases rb
 ·obtain ⟨hc, rfl⟩ : c = encV y ∧ ev = .lit .nilIface := HR
  obtain rfl : c = yc := hc.trans hy.symm
  repeat with_reducible refine jR (cellQ x16) ?_
  with_reducible refine jE trivial ?_
  trivial
 ·simp only [if_true] at HR
  obtain ⟨_, _, _, _, y4, _, _⟩ := Y
  by_cases hro : y.rest = e.ro
  ·rw [if_pos hro] at HR
   obtain ⟨hc, rfl⟩ := HR
   have Z := cV (setRest y e.rn); rw [← hc] at Z
   have Y := cV y; rw [← hy] at Y
   repeat with_reducible refine jR (J4 (cellQ x16) (cellQ y4) (cellQ x17) (eq_T hro)) ?_
   with_reducible refine jE trivial ?_
   obtain ⟨z0, z1, z2, z3, z4, z5, z6⟩ := Z
   obtain ⟨w0, w1, w2, w3, w4, w5, w6⟩ := Y
   simp only [z0, z1, z2, z3, z4, z5, z6, w0, w1, w2, w3, w4, w5, w6, x18, setRest, eZ, eS]
  ·rw [if_neg hro] at HR
   obtain ⟨rfl, rfl⟩ := HR
   repeat with_reducible refine jR (J4 (cellQ x16) (cellQ y4) (cellQ x17) hro) ?_
   with_reducible refine jE trivial ?_
   and_intros <;> exact LeD.of rfl
structure AbX (fl : List (List DV)) (ok : V × E → Prop) (R : Res V) where
 i : Nat
 rs : List (V × E)
 y : V
 yc : List DV
 hd : fl.drop i = encEK rs
 hy : yc = encV y
 hr : adoK rs y = R
 hok : ∀ x ∈ rs, ok x
 hg : right y = true ∧ (y.kind = 5 ∨ y.kind = 0) ∧ vmx y + eszK rs ≤ 90000
def bookR (e : E) (v : V) : Res V := if v.kind = 5 ∨ v.kind = 0 then adoK e.keys v else .bad 13
theorem part_none {x : V} (hy : right x = true) (hk : ¬ (x.kind ≠ 0 ∧ ¬ (1 ≤ x.kind ∧ x.kind ≤ 3))) : x.kind = 0 ∨ partB x = true := by
 by_cases h0 : x.kind = 0
 ·exact .inl h0
 ·refine .inr (Val.part_of ?_ hy)
  by_cases h3 : 1 ≤ x.kind ∧ x.kind ≤ 3
  ·exact h3
  ·exact absurd ⟨h0, h3⟩ hk
theorem head_c {y m a b : V} {r : List (V × V)} (h : y.pairs = (a, b) :: r) : headKind y m ↔ ¬ a.kind = m.kind := ⟨fun ⟨e, h1, h2⟩ => by rw [h] at h1; cases h1; exact h2, fun h2 => ⟨(a, b), by rw [h]; rfl, h2⟩⟩
theorem abook_run (er : Errs) (e : E) (v : V) (hr : right v = true) (hb : vmx v + esz e ≤ 90000) (hall : allK e.keys) (HF : ∀ y ∈ e.keys, DoE er y.2) : ApAt er 92 e v (bookR e v) := by
 obtain ⟨c, ev, HR⟩ := rv_ex er (bookR e v)
 refine ⟨c, ev, HR, fun xc vc hx hv fr => ?_⟩
 have pd := Val.esz_parts e
 have x20 : cellAt xc 20 = .sl (encEK e.keys) := by rw [hx]; exact (cE _).2.2.2.2.2.2.2.2
 have V0 := (cV v).1; rw [← hv] at V0
 obtain ⟨fl, hfl⟩ : ∃ z, z = encEK e.keys := ⟨_, rfl⟩
 rw [← hfl] at x20
 obtain ⟨kv, hkv⟩ : ∃ z, z = v.kind := ⟨_, rfl⟩
 unfold bookR at HR
 rw [← hkv] at V0 HR
 refine PRun.pure (xs := [.agg (cellsP 21 xc), .agg (cellsP 7 vc)]) (r1 := .tup [.agg (cellsP 7 c), .d fun _ => ev]) tI_ok (by kernel_rfl) Tryz.func92 rfl rfl (by kernel_rfl) ?_
 by_cases k5 : kv = 5 ∨ kv = 0
 rotate_left
 ·rw [if_neg k5] at HR
  obtain ⟨rfl, rfl⟩ := HR
  have k5a : ¬ kv = 5 := fun h => k5 (.inl h)
  have k0a : ¬ kv = 0 := fun h => k5 (.inr h)
  repeat with_reducible refine jR (J3 (cellQ V0) k5a k0a) ?_
  with_reducible refine jE trivial ?_
  and_intros <;> exact LeD.of rfl
 rw [if_pos k5] at HR
 obtain ⟨R, hR⟩ : ∃ z, z = adoK e.keys v := ⟨_, rfl⟩
 rw [← hR] at HR
 have hk5 := k5
 rcases k5 with k5 | k5
 have kf := eq_T k5
 have kg := kf
 rotate_left
 have kf : ¬ kv = 5 := by omega
 have kg := eq_T k5
 all_goals
  repeat with_reducible refine jR (J4 (cellQ V0) kf kg (cellQ x20)) ?_
  refine hLoop (loop_okK (ι := AbX fl (fun x => KP x.1.kind x.1 ∧ eright x.2 = true ∧ DoE er x.2) R) tI_ok (by kernel_rfl) (fun x => aiS xc 21 22 23 fl x.i x.yc) (fun x => x.rs.length) ⟨0, e.keys, v, vc, hfl, hv, hR.symm, fun x h => ⟨(hall x h).1, (hall x h).2, HF x h⟩, hr, hkv ▸ hk5, by omega⟩ ?_ (fun x kn => ?_))
  ·with_reducible refine jR trivial ?_
   and_intros <;> first | exact LeD.of rfl | exact LeD.of x20
  obtain ⟨i, rs, y, yc, hd, hy, hrr, hok, hg1, hg2, hg3⟩ := x
  show holds _ _ _ (Go.Proofs.YtlmbcoecipbblaaGreatDoor.ev tI (gE er) _ _ (aiS xc 21 22 23 fl i yc)) _
  have hmx := kn.1 21 _ fl rfl rfl
  clear kn
  have hi0 := Int.natCast_nonneg i
  have Y6 := (cV y).2.2.2.2.2.2; rw [← hy] at Y6
  obtain ⟨pl, hpl⟩ : ∃ z, z = encP y.pairs := ⟨_, rfl⟩
  rw [← hpl] at Y6
  rcases rs with _ | ⟨⟨m, y2⟩, rs⟩
  rotate_left
  ·obtain ⟨qc, hqc⟩ : ∃ z, z = encV m ++ encE y2 := ⟨_, rfl⟩
   rw [encEK, ← hqc] at hd
   obtain ⟨g1, g2, g3⟩ := drop_c hd
   have hw := wrap_mx g2 hmx
   have q8 : qc.length = 28 := by rw [hqc, List.length_append, encV_len, encE_len]
   obtain ⟨mc, hmc⟩ : ∃ z, z = encV m := ⟨_, rfl⟩
   obtain ⟨oc, hoc⟩ : ∃ z, z = encE y2 := ⟨_, rfl⟩
   have qm : ∀ i, i < 7 → cellAt qc i = cellAt mc i := fun i h => by rw [hqc, hmc]; exact cell_app1 (by rw [encV_len]; exact h)
   have q0 : cellAt qc 0 = .lit (.int .i64 m.kind) := by rw [qm 0 (by decide), hmc]; exact (cV m).1
   obtain ⟨hK, hE, HD⟩ : KP m.kind m ∧ eright y2 = true ∧ DoE er y2 := hok _ (List.mem_cons_self ..)
   rw [adoK] at hrr
   obtain ⟨i2, hi2⟩ : ∃ z, z = i + 1 := ⟨_, rfl⟩
   by_cases hh : headKind y m
   ·rw [if_pos hh] at hrr
    subst hrr
    obtain ⟨rfl, rfl⟩ : c = zVd ∧ ev = .lit (er.of 13) := HR
    obtain ⟨⟨a, b⟩, r, hyp⟩ : ∃ e r, y.pairs = e :: r := by
     obtain ⟨e, h1, _⟩ := hh
     cases hp : y.pairs with
     | nil => rw [hp] at h1; cases h1
     | cons e r => exact ⟨e, r, rfl⟩
    have hak := (head_c hyp).1 hh
    obtain ⟨pc, hpc⟩ : ∃ z, z = encV a ++ encV b := ⟨_, rfl⟩
    rw [hyp, encP, ← hpc] at hpl
    have p0 : cellAt pc 0 = .lit (.int .i64 a.kind) := by rw [hpc, cell_app1 (by rw [encV_len]; decide)]; exact (cV a).1
    have p14 : pc.length = 14 := by rw [hpc, List.length_append, encV_len, encV_len]
    obtain ⟨pr, hpr⟩ : ∃ z, z = encP r := ⟨_, rfl⟩
    rw [← hpr] at hpl
    subst hpl
    repeat with_reducible refine jR (J2 (eq_T (Int.ofNat_lt.2 g2)) (eq_T hi0)) ?_
    (with_reducible refine jI qc ?_ ?_); exact g1
    repeat with_reducible refine jR (J3 q8 (cellQ Y6) (lenC pc pr)) ?_
    (with_reducible refine jI pc ?_ ?_); exact rfl
    repeat with_reducible refine jR (J4 p14 (cellQ p0) (cellQ q0) hak) ?_
    with_reducible refine Exists.intro (apQ (.lit (er.of 13))) (And.intro ?_ ?_)
    ·with_reducible refine jR trivial ?_
     and_intros <;> exact LeD.of rfl
    repeat with_reducible refine jR trivial ?_
    with_reducible refine jE trivial ?_
    and_intros <;> exact LeD.of rfl
   rw [if_neg hh] at hrr
   have hO := Val.kinds_of hg1 hg2 hh
   have hG := Val.right_find hg1 hO hK
   rw [eszK] at hg3
   have hgv := Val.find_vmx y m
   have hyf := Val.vmx_parts y
   obtain ⟨gc, hgc⟩ : ∃ z, z = encV (find y m) := ⟨_, rfl⟩
   have HG := fun fr => find_run (G := gE er) hy hmc hgc (Val.mono_pairs hO hK) (by omega) fr
   have HG := fun fr => (HG fr).args (args' := [.agg (cellsP 7 yc), .agg ((List.range 7).map fun i => (.d fun _ => cellAt qc i : PV))]) (fun N h vs hp => by rw [cells_as (n := 7) (f := fun i => cellAt qc i) (c := mc) qm] at hp; exact hp)
   obtain ⟨c1, ev1, h1, H1⟩ := HD (find y m) hG (by omega)
   have H1 := fun fr => H1 oc gc hoc hgc fr
   have H1 := fun fr => (H1 fr).args (args' := [.agg ((List.range 21).map fun i => (.d fun _ => cellAt qc (i + 7) : PV)), .agg (cellsP 7 gc)]) (fun N h vs hp => by rw [cells_as (n := 21) (f := fun i => cellAt qc (i + 7)) (c := oc) (fun i _ => by rw [hqc, hoc]; exact cell_app2 (encV_len m))] at hp; exact hp)
   obtain ⟨b1, q1, y1, n1⟩ := rv_nil h1
   have hpp : (pl = [] ∨ ∃ pc pr, pl = pc :: pr ∧ pc.length = 14 ∧ cellAt pc 0 = .lit (.int .i64 m.kind)) := by
    cases hyp : y.pairs with
    | nil => left; rw [hpl, hyp, encP]
    | cons q r =>
     obtain ⟨a, b⟩ := q
     right
     have hak : a.kind = m.kind := Classical.byContradiction fun h => hh ((head_c hyp).2 h)
     exact ⟨encV a ++ encV b, encP r, by rw [hpl, hyp, encP], by rw [List.length_append, encV_len, encV_len], by rw [cell_app1 (by rw [encV_len]; decide), ← hak]; exact (cV a).1⟩
   rcases hpp with hpp | ⟨pc, pr, hpp, p14, p0⟩
   obtain ⟨pc, hpc⟩ : ∃ z, z = qc := ⟨_, rfl⟩
   have ln := lenN
   have p14 := q8
   have p0 := q0
   rotate_left
   have ln := lenC pc pr
   all_goals
    subst hpp
    cases b1
    ·obtain ⟨x, hx1, hc1, he1⟩ := n1 rfl
     rw [hx1] at hrr
     simp only at hrr
     have hrx := Val.ado_right _ _ _ hE hG hx1
     have C0 := (cV x).1; rw [← hc1] at C0
     obtain ⟨kx, hkx⟩ : ∃ z, z = x.kind := ⟨_, rfl⟩
     rw [← hkx] at C0 hrr
     have HP := fun fr => appart_run (G := gE er) C0 fr
     by_cases hbad : kx ≠ 0 ∧ ¬ (1 ≤ kx ∧ kx ≤ 3)
     ·rw [if_pos hbad] at hrr
      subst hrr
      obtain ⟨rfl, rfl⟩ : c = zVd ∧ ev = .lit (er.of 12) := HR
      rw [decide_eq_false hbad.2] at HP
      have k0 : ¬ kx = 0 := hbad.1
      repeat with_reducible refine jR (J2 (eq_T (Int.ofNat_lt.2 g2)) (eq_T hi0)) ?_
      (with_reducible refine jI qc ?_ ?_); exact g1
      repeat with_reducible refine jR (J3 q8 (cellQ Y6) ln) ?_
      try ((with_reducible refine jI pc ?_ ?_); exact rfl; repeat with_reducible refine jR (J3 p14 (cellQ p0) (cellQ q0)) ?_)
      (with_reducible apply hCall); exact HG _; with_reducible refine jR trivial ?_
      repeat with_reducible refine jR trivial ?_
      (with_reducible apply hCall); exact H1 _; with_reducible refine jR (J3 q1 (cellQ C0) k0) ?_
      repeat with_reducible refine jR (J3 q1 (cellQ C0) k0) ?_
      (with_reducible apply hCall); exact HP _; with_reducible refine jR trivial ?_
      repeat with_reducible refine jR trivial ?_
      with_reducible refine Exists.intro (apQ (.lit (er.of 12))) (And.intro ?_ ?_)
      ·with_reducible refine jR trivial ?_
       and_intros <;> exact LeD.of rfl
      repeat with_reducible refine jR trivial ?_
      with_reducible refine jE trivial ?_
      and_intros <;> exact LeD.of rfl
     ·rw [if_neg hbad] at hrr
      have hp := part_none hrx (hkx ▸ hbad)
      have h4 := Val.put_vmx y m x
      have h5 := Val.ado_vmx _ _ _ hx1
      obtain ⟨wc, hwc⟩ : ∃ z, z = encV (putV y m x) := ⟨_, rfl⟩
      have HW := fun fr => vput_run (G := gE er) hy hmc hc1 hwc (Val.mono_pairs hO hK) (by omega) fr
      have HW := fun fr => (HW fr).args (args' := [.agg (cellsP 7 yc), .agg ((List.range 7).map fun i => (.d fun _ => cellAt qc i : PV)), .agg (cellsP 7 c1)]) (fun N h vs hp => by rw [cells_as (n := 7) (f := fun i => cellAt qc i) (c := mc) qm] at hp; exact hp)
      by_cases k0 : kx = 0
      ·repeat with_reducible refine jR (J2 (eq_T (Int.ofNat_lt.2 g2)) (eq_T hi0)) ?_
       (with_reducible refine jI qc ?_ ?_); exact g1
       repeat with_reducible refine jR (J3 q8 (cellQ Y6) ln) ?_
       try ((with_reducible refine jI pc ?_ ?_); exact rfl; repeat with_reducible refine jR (J3 p14 (cellQ p0) (cellQ q0)) ?_)
       (with_reducible apply hCall); exact HG _; with_reducible refine jR trivial ?_
       repeat with_reducible refine jR trivial ?_
       (with_reducible apply hCall); exact H1 _; with_reducible refine jR (J3 q1 (cellQ C0) (eq_T k0)) ?_
       repeat with_reducible refine jR (J3 q1 (cellQ C0) (eq_T k0)) ?_
       (with_reducible apply hCall); exact HW _; with_reducible refine jR hw ?_
       repeat with_reducible refine jR hw ?_
       have hrw := Val.right_put hO hK hp
       have hkw := Val.keys_put hO hK hp
       unfold Val.KeysOf at hkw
       obtain ⟨z, hz⟩ : ∃ z, z = putV y m x := ⟨_, rfl⟩
       rw [← hz] at hwc hrr hrw hkw h4
       with_reducible refine Exists.intro ⟨i2, rs, z, wc, by rw [hi2]; exact g3, hwc, hrr, fun x hx => hok x (List.mem_cons_of_mem _ hx), hrw, hkw.1, by omega⟩ (And.intro (Nat.lt_succ_self _) ?_)
       with_reducible refine jR trivial ?_
       subst hi2
       and_intros <;> first | exact LeD.of rfl | exact LeD.of (by rw [hw]; rfl)
      ·have hpt : 1 ≤ kx ∧ kx ≤ 3 := Classical.byContradiction fun h => hbad ⟨k0, h⟩
       rw [decide_eq_true hpt] at HP
       repeat with_reducible refine jR (J2 (eq_T (Int.ofNat_lt.2 g2)) (eq_T hi0)) ?_
       (with_reducible refine jI qc ?_ ?_); exact g1
       repeat with_reducible refine jR (J3 q8 (cellQ Y6) ln) ?_
       try ((with_reducible refine jI pc ?_ ?_); exact rfl; repeat with_reducible refine jR (J3 p14 (cellQ p0) (cellQ q0)) ?_)
       (with_reducible apply hCall); exact HG _; with_reducible refine jR trivial ?_
       repeat with_reducible refine jR trivial ?_
       (with_reducible apply hCall); exact H1 _; with_reducible refine jR (J3 q1 (cellQ C0) k0) ?_
       repeat with_reducible refine jR (J3 q1 (cellQ C0) k0) ?_
       (with_reducible apply hCall); exact HP _; with_reducible refine jR trivial ?_
       repeat with_reducible refine jR trivial ?_
       (with_reducible apply hCall); exact HW _; with_reducible refine jR hw ?_
       repeat with_reducible refine jR hw ?_
       have hrw := Val.right_put hO hK hp
       have hkw := Val.keys_put hO hK hp
       unfold Val.KeysOf at hkw
       obtain ⟨z, hz⟩ : ∃ z, z = putV y m x := ⟨_, rfl⟩
       rw [← hz] at hwc hrr hrw hkw h4
       with_reducible refine Exists.intro ⟨i2, rs, z, wc, by rw [hi2]; exact g3, hwc, hrr, fun x hx => hok x (List.mem_cons_of_mem _ hx), hrw, hkw.1, by omega⟩ (And.intro (Nat.lt_succ_self _) ?_)
       with_reducible refine jR trivial ?_
       subst hi2
       and_intros <;> first | exact LeD.of rfl | exact LeD.of (by rw [hw]; rfl)
    ·obtain ⟨nb, hb1, he1⟩ := y1 rfl
     rw [hb1] at hrr
     simp only at hrr
     subst hrr
     obtain ⟨rfl, rfl⟩ : c = zVd ∧ ev = .lit (er.of nb) := HR
     repeat with_reducible refine jR (J2 (eq_T (Int.ofNat_lt.2 g2)) (eq_T hi0)) ?_
     (with_reducible refine jI qc ?_ ?_); exact g1
     repeat with_reducible refine jR (J3 q8 (cellQ Y6) ln) ?_
     try ((with_reducible refine jI pc ?_ ?_); exact rfl; repeat with_reducible refine jR (J3 p14 (cellQ p0) (cellQ q0)) ?_)
     (with_reducible apply hCall); exact HG _; with_reducible refine jR trivial ?_
     repeat with_reducible refine jR trivial ?_
     (with_reducible apply hCall); exact H1 _; with_reducible refine jR q1 ?_
     repeat with_reducible refine jR q1 ?_
     with_reducible refine Exists.intro (apQ ev1) (And.intro ?_ ?_)
     ·with_reducible refine jR trivial ?_
      and_intros <;> exact LeD.of rfl
     repeat with_reducible refine jR trivial ?_
     with_reducible refine jE trivial ?_
     and_intros <;> first | exact LeD.of rfl | exact LeD.of he1
  have hge := drop_n (hd.trans (by rw [encEK]))
  have hRy : R = .ok y := by rw [← hrr, adoK]
  rw [hRy] at HR
  obtain ⟨hc, rfl⟩ := HR
  obtain rfl : c = yc := hc.trans hy.symm
  repeat with_reducible refine jR hge ?_
  with_reducible refine Exists.intro (aiQ xc c) (And.intro ?_ ?_)
  ·with_reducible refine jR trivial ?_
   trivial
  repeat with_reducible refine jR trivial ?_
  with_reducible refine jE trivial ?_
  trivial
end Go.Proofs.YtlmbcoecipbblaaGreatDoor
