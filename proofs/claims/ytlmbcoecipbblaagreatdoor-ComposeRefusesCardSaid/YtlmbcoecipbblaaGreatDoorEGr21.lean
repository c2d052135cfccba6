/- redlinelaw21.Great, by the engine. -/
import Derived.Test.YtlmbcoecipbblaaGreatDoorGpR
set_option maxRecDepth 100000
set_option maxHeartbeats 8000000
set_option linter.unusedVariables false
set_option linter.unusedSimpArgs false
namespace Go.Proofs.YtlmbcoecipbblaaGreatDoor
open Go.RowKit
open Val (V E gr grF grL grP ge geF geS geK)
def GrE (x : E) : Prop := ∀ (G : List (Nat × List DV)) (xc : List DV), xc = encE x → ∀ (left deep : Int), 0 ≤ left → left ≤ 100000 → 0 ≤ deep → deep ≤ 100000 → ∀ fr, PRun Tryz.prog G 14 [.agg (cellsP 21 xc), .d fun _ => .lit (.int .i64 left), .d fun _ => .lit (.int .i64 deep)] [] fr (.d fun _ => .lit (.int .i64 (ge x left deep))) []
structure AX2 {α : Type} (enc : List α → List (List DV)) (f : Int → List α → Option Int) (fl : List (List DV)) (ok : α → Prop) (R : Option Int) where
 acc : Int
 i : Nat
 rs : List α
 hd : fl.drop i = enc rs
 hr : f acc rs = R
 hok : ∀ x ∈ rs, ok x
 ob : -1 ≤ acc ∧ acc ≤ 100000
def geKo : List (V × E) → Int → Int → Option Int
 | [], _, left => some left
 | (k, e) :: r, d, left => if 0 ≤ left ∧ gr k 20 30 < 0 then none else geKo r d (Val.dec left (ge e left d))
theorem geKo_eq : ∀ (l : List (V × E)) (d left : Int), geK l d left = (geKo l d left).getD (-1)
 | [], d, left => by rw [geK, geKo]; rfl
 | (k, e) :: r, d, left => by
  rw [geK, geKo]
  split
  ·rfl
  ·exact geKo_eq r d _
theorem ge_run (x : E) (HF : ∀ y ∈ x.fields, GrE y.2) (HS : ∀ y ∈ x.steps, GrE y.2.2.2) (HP : ∀ y ∈ x.keys, GrE y.2) : GrE x := fun G vc hx left deep l0 l1 d0 d1 fr => by
 obtain ⟨fl, hfl⟩ : ∃ l, l = encEF x.fields := ⟨_, rfl⟩
 obtain ⟨ll, hll⟩ : ∃ z, z = encES x.steps := ⟨_, rfl⟩
 obtain ⟨pl, hpl⟩ : ∃ l, l = encEK x.keys := ⟨_, rfl⟩
 have X := cE x; rw [← hx] at X
 obtain ⟨_, xo, xn, x3, _, x17, x18, x5, x6⟩ := X
 rw [← hfl] at x3
 rw [← hll] at x5
 rw [← hpl] at x6
 obtain ⟨co, hco⟩ : ∃ z, z = encV x.old := ⟨_, rfl⟩
 obtain ⟨cn, hcn⟩ : ∃ z, z = encV x.new := ⟨_, rfl⟩
 rw [← hco] at xo
 rw [← hcn] at xn
 have HO := fun fr => (great13_run (G := G) hco 60 (by decide) (by decide) fr).args (args' := [.agg ((List.range 7).map fun i => (.d fun _ => cellAt vc (i + 1) : PV)), .d fun _ => .lit (.int .i64 60)]) (fun N h vs hp => by rw [cells_as (n := 7) (f := fun i => cellAt vc (i + 1)) (c := co) (fun i h => xo i h)] at hp; exact hp)
 have HN := fun fr => (great13_run (G := G) hcn 60 (by decide) (by decide) fr).args (args' := [.agg ((List.range 7).map fun i => (.d fun _ => cellAt vc (i + 8) : PV)), .d fun _ => .lit (.int .i64 60)]) (fun N h vs hp => by rw [cells_as (n := 7) (f := fun i => cellAt vc (i + 8)) (c := cn) (fun i h => xn i h)] at hp; exact hp)
 obtain ⟨R, hR⟩ : ∃ z, z = ge x left deep := ⟨_, rfl⟩
 rw [← hR]
 have hR : R = if deep = 0 ∨ 300 < x.ro.size ∨ 300 < x.rn.size ∨ gr x.old 60 30 < 0 ∨ gr x.new 60 30 < 0 then -1 else match geS x.steps (deep - 1) (geF x.fields (deep - 1) (left - 1)) with | none => -1 | some l => geK x.keys (deep - 1) l := by rw [hR]; cases x; rw [ge]; rfl
 obtain ⟨bo, hbo⟩ : ∃ z, z = decide (gr x.old 60 30 < 0) := ⟨_, rfl⟩
 obtain ⟨bn, hbn⟩ : ∃ z, z = decide (gr x.new 60 30 < 0) := ⟨_, rfl⟩
 rw [← hbo] at HO
 rw [← hbn] at HN
 refine PRun.pure (xs := [.agg (cellsP 21 vc), .d fun _ => .lit (.int .i64 left), .d fun _ => .lit (.int .i64 deep)]) (r1 := .d fun _ => .lit (.int .i64 R)) tI_ok (by kernel_rfl) Tryz.func14 rfl rfl (by kernel_rfl) ?_
 by_cases c0 : deep = 0
 ·rw [if_pos (.inl c0)] at hR
  repeat with_reducible refine jR (eq_T c0) ?_
  with_reducible refine jE trivial ?_
  exact LeD.of (by rw [hR])
 by_cases c1 : (300 : Int) < (x.ro.size : Int)
 ·rw [if_pos (.inr (.inl (by omega)))] at hR
  repeat with_reducible refine jR (J3 c0 (cellQ x17) (eq_T c1)) ?_
  with_reducible refine jE trivial ?_
  exact LeD.of (by rw [hR])
 by_cases c2 : (300 : Int) < (x.rn.size : Int)
 ·rw [if_pos (.inr (.inr (.inl (by omega))))] at hR
  repeat with_reducible refine jR (J5 c0 (cellQ x17) c1 (cellQ x18) (eq_T c2)) ?_
  with_reducible refine jE trivial ?_
  exact LeD.of (by rw [hR])
 by_cases c3 : gr x.old 60 30 < 0
 ·rw [if_pos (.inr (.inr (.inr (.inl c3))))] at hR
  rw [decide_eq_true c3] at hbo
  subst hbo
  repeat with_reducible refine jR (J5 c0 (cellQ x17) c1 (cellQ x18) c2) ?_
  (with_reducible apply hCall); exact HO _; with_reducible refine jR trivial ?_
  repeat with_reducible refine jR trivial ?_
  with_reducible refine jE trivial ?_
  exact LeD.of (by rw [hR])
 rw [decide_eq_false c3] at hbo
 subst hbo
 by_cases c4 : gr x.new 60 30 < 0
 ·rw [if_pos (.inr (.inr (.inr (.inr c4))))] at hR
  rw [decide_eq_true c4] at hbn
  subst hbn
  repeat with_reducible refine jR (J5 c0 (cellQ x17) c1 (cellQ x18) c2) ?_
  (with_reducible apply hCall); exact HO _; with_reducible refine jR trivial ?_
  repeat with_reducible refine jR trivial ?_
  (with_reducible apply hCall); exact HN _; with_reducible refine jR trivial ?_
  repeat with_reducible refine jR trivial ?_
  with_reducible refine jE trivial ?_
  exact LeD.of (by rw [hR])
 rw [decide_eq_false c4] at hbn
 subst hbn
 rw [if_neg (by omega)] at hR
 obtain ⟨R1, hR1⟩ : ∃ z, z = geF x.fields (deep - 1) (left - 1) := ⟨_, rfl⟩
 rw [← hR1] at hR
 have hlw : IntKind.i64.wrap (left - 1) = left - 1 := wrap_in (by omega) (by omega)
 have hdw : IntKind.i64.wrap (deep - 1) = deep - 1 := wrap_in (by omega) (by omega)
 have dd0 : 0 ≤ deep - 1 := by omega
 have dd1 : deep - 1 ≤ 100000 := by omega
 obtain ⟨a0, ha0⟩ : ∃ z, z = left - 1 := ⟨_, rfl⟩
 rw [← ha0] at hR1 hlw
 repeat with_reducible refine jR (J5 c0 (cellQ x17) c1 (cellQ x18) c2) ?_
 (with_reducible apply hCall); exact HO _; with_reducible refine jR trivial ?_
 repeat with_reducible refine jR trivial ?_
 (with_reducible apply hCall); exact HN _; with_reducible refine jR (cellQ x3) ?_
 repeat with_reducible refine jR (cellQ x3) ?_
 refine hLoop (loop_okK (ι := AX encEF (fun a l => geF l (deep - 1) a) fl (fun y : Int × E => GrE y.2) R1) tI_ok (by kernel_rfl) (fun x => grS 21 vc deep 40 42 41 x.acc fl x.i) (fun x => x.rs.length) ⟨a0, 0, x.fields, hfl, hR1.symm, HF, ⟨by omega, by omega⟩⟩ ?_ (fun x kn => ?_))
 ·with_reducible refine jR trivial ?_
  and_intros <;> first | exact LeD.of rfl | exact LeD.of x3 | exact LeD.of (by rw [← hlw, ha0])
 obtain ⟨acc, i, rs, hd, hr, hok, ob⟩ := x
 show holds _ _ _ (ev tI G _ _ (grS 21 vc deep 40 42 41 acc fl i)) _
 have hmx := kn.1 40 _ fl rfl rfl
 clear kn
 have hi0 := Int.natCast_nonneg i
 rcases rs with _ | ⟨⟨m, y⟩, rs⟩
 rotate_left
 ·obtain ⟨qc, hqc⟩ : ∃ z, z = DV.lit (.int .i64 m) :: encE y := ⟨_, rfl⟩
  rw [encEF, ← hqc] at hd
  obtain ⟨g1, g2, g3⟩ := drop_c hd
  have hw := wrap_mx g2 hmx
  have q8 : qc.length = 22 := by rw [hqc, List.length_cons, encE_len]
  obtain ⟨oc, hoc⟩ : ∃ z, z = encE y := ⟨_, rfl⟩
  have HY := fun (a : Int) (h0 : 0 ≤ a) (h1 : a ≤ 100000) fr => hok _ (List.mem_cons_self ..) G oc hoc a (deep - 1) h0 h1 dd0 dd1 fr
  have HY := fun a h0 h1 fr => (HY a h0 h1 fr).args (args' := [.agg ((List.range 21).map fun i => (.d fun _ => cellAt qc (i + 1) : PV)), .d fun _ => .lit (.int .i64 a), .d fun _ => .lit (.int .i64 (deep - 1))]) (fun N h vs hp => by rw [cells_as (n := 21) (f := fun i => cellAt qc (i + 1)) (c := oc) (fun i _ => by rw [hqc, hoc]; rfl)] at hp; exact hp)
  obtain ⟨i2, hi2⟩ : ∃ z, z = i + 1 := ⟨_, rfl⟩
  by_cases h0 : 0 ≤ acc
  ·have le := Val.ge_le y acc (deep - 1) h0
   repeat with_reducible refine jR (J3 (eq_T (Int.ofNat_lt.2 g2)) (eq_T hi0) (eq_T h0)) ?_
   (with_reducible refine jI qc ?_ ?_); exact g1
   repeat with_reducible refine jR (J3 q8 (eq_T h0) hdw) ?_
   (with_reducible apply hCall); exact HY acc h0 ob.2 _; with_reducible refine jR hw ?_
   repeat with_reducible refine jR hw ?_
   obtain ⟨acc2, ha2⟩ : ∃ z, z = ge y acc (deep - 1) := ⟨_, rfl⟩
   with_reducible refine Exists.intro ⟨acc2, i2, rs, by rw [hi2]; exact g3, by rw [← hr, geF, Val.dec, if_pos h0, ha2], fun x hx => hok x (List.mem_cons_of_mem _ hx), by rw [ha2]; omega⟩ (And.intro (Nat.lt_succ_self _) ?_)
   with_reducible refine jR trivial ?_
   subst hi2
   and_intros <;> first | exact LeD.of rfl | exact LeD.of (by rw [hw]; rfl) | exact LeD.of (by rw [ha2])
  repeat with_reducible refine jR (J3 (eq_T (Int.ofNat_lt.2 g2)) (eq_T hi0) h0) ?_
  (with_reducible refine jI qc ?_ ?_); exact g1
  repeat with_reducible refine jR (J3 q8 h0 hw) ?_
  with_reducible refine Exists.intro ⟨acc, i2, rs, by rw [hi2]; exact g3, by rw [← hr, geF, Val.dec, if_neg h0], fun x hx => hok x (List.mem_cons_of_mem _ hx), ob⟩ (And.intro (Nat.lt_succ_self _) ?_)
  with_reducible refine jR trivial ?_
  subst hi2
  and_intros <;> first | exact LeD.of rfl | exact LeD.of (by rw [hw]; rfl) | exact LeD.of (by rw [ha2])
 have hge := drop_n (hd.trans (by rw [encEF]))
 repeat with_reducible refine jR hge ?_
 with_reducible refine Exists.intro (grQ 21 vc deep acc) (And.intro ?_ ?_)
 ·with_reducible refine jR trivial ?_
  trivial
 rw [show geF [] (deep - 1) acc = acc from by rw [geF]] at hr
 subst hr
 obtain ⟨R2, hR2⟩ : ∃ z, z = geS x.steps (deep - 1) acc := ⟨_, rfl⟩
 rw [← hR2] at hR
 repeat with_reducible refine jR (cellQ x5) ?_
 refine hLoop (loop_okK (ι := AX2 encES (fun a l => geS l (deep - 1) a) ll (fun y : Int × Int × V × E => GrE y.2.2.2) R2) tI_ok (by kernel_rfl) (fun x => grS 21 vc deep 56 58 57 x.acc ll x.i) (fun x => x.rs.length) ⟨acc, 0, x.steps, hll, hR2.symm, HS, ob⟩ ?_ (fun x kn => ?_))
 ·with_reducible refine jR trivial ?_
  and_intros <;> first | exact LeD.of rfl | exact LeD.of x5
 obtain ⟨acc, i, rs, hd, hr, hok, ob⟩ := x
 show holds _ _ _ (ev tI G _ _ (grS 21 vc deep 56 58 57 acc ll i)) _
 have hmx := kn.1 56 _ ll rfl rfl
 clear kn
 have hi0 := Int.natCast_nonneg i
 rcases rs with _ | ⟨⟨k, c, v, y⟩, rs⟩
 rotate_left
 ·obtain ⟨qc, hqc⟩ : ∃ z, z = DV.lit (.int .i64 k) :: .lit (.int .i64 c) :: (encV v ++ encE y) := ⟨_, rfl⟩
  rw [encES, ← hqc] at hd
  obtain ⟨g1, g2, g3⟩ := drop_c hd
  have hw := wrap_mx g2 hmx
  have q8 : qc.length = 30 := by rw [hqc, List.length_cons, List.length_cons, List.length_append, encV_len, encE_len]
  have q1 : cellAt qc 1 = .lit (.int .i64 c) := by rw [hqc]; rfl
  obtain ⟨mc, hmc⟩ : ∃ z, z = encV v := ⟨_, rfl⟩
  obtain ⟨oc, hoc⟩ : ∃ z, z = encE y := ⟨_, rfl⟩
  have HY := fun (a : Int) (h0 : 0 ≤ a) (h1 : a ≤ 100000) fr => hok _ (List.mem_cons_self ..) G oc hoc a (deep - 1) h0 h1 dd0 dd1 fr
  have HY := fun a h0 h1 fr => (HY a h0 h1 fr).args (args' := [.agg ((List.range 21).map fun i => (.d fun _ => cellAt qc (i + 9) : PV)), .d fun _ => .lit (.int .i64 a), .d fun _ => .lit (.int .i64 (deep - 1))]) (fun N h vs hp => by rw [cells_as (n := 21) (f := fun i => cellAt qc (i + 9)) (c := oc) (fun i _ => by rw [hqc, hoc]; exact cell_app2 (encV_len v))] at hp; exact hp)
  have HV := fun fr => great13_run (G := G) hmc 60 (by decide) (by decide) fr
  have HV := fun  fr => (HV  fr).args (args' := [.agg ((List.range 7).map fun i => (.d fun _ => cellAt qc (i + 2) : PV)), .d fun _ => .lit (.int .i64 60)]) (fun N h vs hp => by rw [cells_as (n := 7) (f := fun i => cellAt qc (i + 2)) (c := mc) (fun i h => by rw [hqc, hmc]; exact cell_app1 (by rw [encV_len]; exact h))] at hp; exact hp)
  obtain ⟨i2, hi2⟩ : ∃ z, z = i + 1 := ⟨_, rfl⟩
  by_cases h0 : 0 ≤ acc
  ·by_cases e1 : gr v 60 30 < 0
   ·rw [decide_eq_true e1] at HV
    repeat with_reducible refine jR (J3 (eq_T (Int.ofNat_lt.2 g2)) (eq_T hi0) (eq_T h0)) ?_
    (with_reducible refine jI qc ?_ ?_); exact g1
    repeat with_reducible refine jR (J2 q8 (eq_T h0)) ?_
    (with_reducible apply hCall); exact HV _; with_reducible refine jR trivial ?_
    repeat with_reducible refine jR trivial ?_
    with_reducible refine Exists.intro grX (And.intro ?_ ?_)
    ·with_reducible refine jR trivial ?_
     trivial
    have hr : _ = none := hr.symm.trans (by rw [geS, if_pos ⟨h0, .inl e1⟩])
    rw [hr] at hR
    repeat with_reducible refine jR trivial ?_
    with_reducible refine jE trivial ?_
    exact LeD.of (by rw [hR]; first | done | rfl)
   rw [decide_eq_false e1] at HV
   by_cases e2 : 2097152 < c
   ·repeat with_reducible refine jR (J3 (eq_T (Int.ofNat_lt.2 g2)) (eq_T hi0) (eq_T h0)) ?_
    (with_reducible refine jI qc ?_ ?_); exact g1
    repeat with_reducible refine jR (J2 q8 (eq_T h0)) ?_
    (with_reducible apply hCall); exact HV _; with_reducible refine jR (J2 (cellQ q1) (eq_T e2)) ?_
    repeat with_reducible refine jR (J2 (cellQ q1) (eq_T e2)) ?_
    with_reducible refine Exists.intro grX (And.intro ?_ ?_)
    ·with_reducible refine jR trivial ?_
     trivial
    have hr : _ = none := hr.symm.trans (by rw [geS, if_pos ⟨h0, .inr e2⟩])
    rw [hr] at hR
    repeat with_reducible refine jR trivial ?_
    with_reducible refine jE trivial ?_
    exact LeD.of (by rw [hR]; first | done | rfl)
   have le := Val.ge_le y acc (deep - 1) h0
   repeat with_reducible refine jR (J3 (eq_T (Int.ofNat_lt.2 g2)) (eq_T hi0) (eq_T h0)) ?_
   (with_reducible refine jI qc ?_ ?_); exact g1
   repeat with_reducible refine jR (J2 q8 (eq_T h0)) ?_
   (with_reducible apply hCall); exact HV _; with_reducible refine jR (J4 (cellQ q1) e2 (eq_T h0) hdw) ?_
   repeat with_reducible refine jR (J4 (cellQ q1) e2 (eq_T h0) hdw) ?_
   (with_reducible apply hCall); exact HY acc h0 ob.2 _; with_reducible refine jR hw ?_
   repeat with_reducible refine jR hw ?_
   obtain ⟨acc2, ha2⟩ : ∃ z, z = ge y acc (deep - 1) := ⟨_, rfl⟩
   with_reducible refine Exists.intro ⟨acc2, i2, rs, by rw [hi2]; exact g3, by rw [← hr, geS, if_neg (by omega), Val.dec, if_pos h0, ha2], fun x hx => hok x (List.mem_cons_of_mem _ hx), by rw [ha2]; omega⟩ (And.intro (Nat.lt_succ_self _) ?_)
   with_reducible refine jR trivial ?_
   subst hi2
   and_intros <;> first | exact LeD.of rfl | exact LeD.of (by rw [hw]; rfl) | exact LeD.of (by rw [ha2])
  repeat with_reducible refine jR (J3 (eq_T (Int.ofNat_lt.2 g2)) (eq_T hi0) h0) ?_
  (with_reducible refine jI qc ?_ ?_); exact g1
  repeat with_reducible refine jR (J3 q8 h0 hw) ?_
  with_reducible refine Exists.intro ⟨acc, i2, rs, by rw [hi2]; exact g3, by rw [← hr, geS, if_neg (by omega), Val.dec, if_neg h0], fun x hx => hok x (List.mem_cons_of_mem _ hx), ob⟩ (And.intro (Nat.lt_succ_self _) ?_)
  with_reducible refine jR trivial ?_
  subst hi2
  and_intros <;> first | exact LeD.of rfl | exact LeD.of (by rw [hw]; rfl) | exact LeD.of (by rw [ha2])
 have hge := drop_n (hd.trans (by rw [encES]))
 repeat with_reducible refine jR hge ?_
 with_reducible refine Exists.intro (grQ 21 vc deep acc) (And.intro ?_ ?_)
 ·with_reducible refine jR trivial ?_
  trivial
 rw [show geS [] (deep - 1) acc = some acc from by rw [geS]] at hr
 subst hr
 simp only at hR
 rw [geKo_eq] at hR
 obtain ⟨R3, hR3⟩ : ∃ z, z = geKo x.keys (deep - 1) acc := ⟨_, rfl⟩
 rw [← hR3] at hR
 repeat with_reducible refine jR (cellQ x6) ?_
 refine hLoop (loop_okK (ι := AX2 encEK (fun a l => geKo l (deep - 1) a) pl (fun y : V × E => GrE y.2) R3) tI_ok (by kernel_rfl) (fun x => grS 21 vc deep 84 86 85 x.acc pl x.i) (fun x => x.rs.length) ⟨acc, 0, x.keys, hpl, hR3.symm, HP, ob⟩ ?_ (fun x kn => ?_))
 ·with_reducible refine jR trivial ?_
  and_intros <;> first | exact LeD.of rfl | exact LeD.of x6
 obtain ⟨acc, i, rs, hd, hr, hok, ob⟩ := x
 show holds _ _ _ (ev tI G _ _ (grS 21 vc deep 84 86 85 acc pl i)) _
 have hmx := kn.1 84 _ pl rfl rfl
 clear kn
 have hi0 := Int.natCast_nonneg i
 rcases rs with _ | ⟨⟨m, y⟩, rs⟩
 rotate_left
 ·obtain ⟨qc, hqc⟩ : ∃ z, z = encV m ++ encE y := ⟨_, rfl⟩
  rw [encEK, ← hqc] at hd
  obtain ⟨g1, g2, g3⟩ := drop_c hd
  have hw := wrap_mx g2 hmx
  have q8 : qc.length = 28 := by rw [hqc, List.length_append, encV_len, encE_len]
  obtain ⟨mc, hmc⟩ : ∃ z, z = encV m := ⟨_, rfl⟩
  obtain ⟨oc, hoc⟩ : ∃ z, z = encE y := ⟨_, rfl⟩
  have HY := fun (a : Int) (h0 : 0 ≤ a) (h1 : a ≤ 100000) fr => hok _ (List.mem_cons_self ..) G oc hoc a (deep - 1) h0 h1 dd0 dd1 fr
  have HY := fun a h0 h1 fr => (HY a h0 h1 fr).args (args' := [.agg ((List.range 21).map fun i => (.d fun _ => cellAt qc (i + 7) : PV)), .d fun _ => .lit (.int .i64 a), .d fun _ => .lit (.int .i64 (deep - 1))]) (fun N h vs hp => by rw [cells_as (n := 21) (f := fun i => cellAt qc (i + 7)) (c := oc) (fun i _ => by rw [hqc, hoc]; exact cell_app2 (encV_len m))] at hp; exact hp)
  have HV := fun fr => great13_run (G := G) hmc 20 (by decide) (by decide) fr
  have HV := fun  fr => (HV  fr).args (args' := [.agg ((List.range 7).map fun i => (.d fun _ => cellAt qc i : PV)), .d fun _ => .lit (.int .i64 20)]) (fun N h vs hp => by rw [cells_as (n := 7) (f := fun i => cellAt qc i) (c := mc) (fun i h => by rw [hqc, hmc]; exact cell_app1 (by rw [encV_len]; exact h))] at hp; exact hp)
  obtain ⟨i2, hi2⟩ : ∃ z, z = i + 1 := ⟨_, rfl⟩
  by_cases h0 : 0 ≤ acc
  ·by_cases e1 : gr m 20 30 < 0
   ·rw [decide_eq_true e1] at HV
    repeat with_reducible refine jR (J3 (eq_T (Int.ofNat_lt.2 g2)) (eq_T hi0) (eq_T h0)) ?_
    (with_reducible refine jI qc ?_ ?_); exact g1
    repeat with_reducible refine jR (J2 q8 (eq_T h0)) ?_
    (with_reducible apply hCall); exact HV _; with_reducible refine jR trivial ?_
    repeat with_reducible refine jR trivial ?_
    with_reducible refine Exists.intro grX (And.intro ?_ ?_)
    ·with_reducible refine jR trivial ?_
     trivial
    have hr : _ = none := hr.symm.trans (by rw [geKo, if_pos ⟨h0, e1⟩])
    rw [hr] at hR
    repeat with_reducible refine jR trivial ?_
    with_reducible refine jE trivial ?_
    exact LeD.of (by rw [hR]; first | done | rfl)
   rw [decide_eq_false e1] at HV
   have le := Val.ge_le y acc (deep - 1) h0
   repeat with_reducible refine jR (J3 (eq_T (Int.ofNat_lt.2 g2)) (eq_T hi0) (eq_T h0)) ?_
   (with_reducible refine jI qc ?_ ?_); exact g1
   repeat with_reducible refine jR (J2 q8 (eq_T h0)) ?_
   (with_reducible apply hCall); exact HV _; with_reducible refine jR (J2 (eq_T h0) hdw) ?_
   repeat with_reducible refine jR (J2 (eq_T h0) hdw) ?_
   (with_reducible apply hCall); exact HY acc h0 ob.2 _; with_reducible refine jR hw ?_
   repeat with_reducible refine jR hw ?_
   obtain ⟨acc2, ha2⟩ : ∃ z, z = ge y acc (deep - 1) := ⟨_, rfl⟩
   with_reducible refine Exists.intro ⟨acc2, i2, rs, by rw [hi2]; exact g3, by rw [← hr, geKo, if_neg (by omega), Val.dec, if_pos h0, ha2], fun x hx => hok x (List.mem_cons_of_mem _ hx), by rw [ha2]; omega⟩ (And.intro (Nat.lt_succ_self _) ?_)
   with_reducible refine jR trivial ?_
   subst hi2
   and_intros <;> first | exact LeD.of rfl | exact LeD.of (by rw [hw]; rfl) | exact LeD.of (by rw [ha2])
  repeat with_reducible refine jR (J3 (eq_T (Int.ofNat_lt.2 g2)) (eq_T hi0) h0) ?_
  (with_reducible refine jI qc ?_ ?_); exact g1
  repeat with_reducible refine jR (J3 q8 h0 hw) ?_
  with_reducible refine Exists.intro ⟨acc, i2, rs, by rw [hi2]; exact g3, by rw [← hr, geKo, if_neg (by omega), Val.dec, if_neg h0], fun x hx => hok x (List.mem_cons_of_mem _ hx), ob⟩ (And.intro (Nat.lt_succ_self _) ?_)
  with_reducible refine jR trivial ?_
  subst hi2
  and_intros <;> first | exact LeD.of rfl | exact LeD.of (by rw [hw]; rfl) | exact LeD.of (by rw [ha2])
 have hge := drop_n (hd.trans (by rw [encEK]))
 repeat with_reducible refine jR hge ?_
 with_reducible refine Exists.intro (grQ 21 vc deep acc) (And.intro ?_ ?_)
 ·with_reducible refine jR trivial ?_
  trivial
 rw [show geKo [] (deep - 1) acc = some acc from by rw [geKo]] at hr
 subst hr
 repeat with_reducible refine jR trivial ?_ 
 with_reducible refine jE trivial ?_
 exact LeD.of (by rw [hR]; first | done | rfl)
mutual
theorem ge_all : ∀ x : E, GrE x
 | .mk k o n f r ro rn s ks => ge_run (.mk k o n f r ro rn s ks) (geF_all f) (geS_all s) (geK_all ks)
theorem geF_all : ∀ f : List (Int × E), ∀ x ∈ f, GrE x.2
 | [], x, hx => absurd hx (by simp)
 | (n, y) :: r, x, hx => by
  rcases List.mem_cons.1 hx with hx | hx
  ·rw [hx]; exact ge_all y
  ·exact geF_all r x hx
theorem geS_all : ∀ f : List (Int × Int × V × E), ∀ x ∈ f, GrE x.2.2.2
 | [], x, hx => absurd hx (by simp)
 | (k, c, v, y) :: r, x, hx => by
  rcases List.mem_cons.1 hx with hx | hx
  ·rw [hx]; exact ge_all y
  ·exact geS_all r x hx
theorem geK_all : ∀ f : List (V × E), ∀ x ∈ f, GrE x.2
 | [], x, hx => absurd hx (by simp)
 | (n, y) :: r, x, hx => by
  rcases List.mem_cons.1 hx with hx | hx
  ·rw [hx]; exact ge_all y
  ·exact geK_all r x hx
end
theorem great21_run {G : List (Nat × List DV)} {x : E} {xc : List DV} (hx : xc = encE x) (m : Int) (h0 : 0 ≤ m) (h1 : m ≤ 100000) (fr : List Nat) : PRun Tryz.prog G 5 [.agg (cellsP 21 xc), .d fun _ => .lit (.int .i64 m)] [] fr (.d fun _ => .lit (.bool (decide (ge x m 20 < 0)))) [] := by
 have H := ge_all x G xc hx m 20 h0 h1 (by decide) (by decide)
 obtain ⟨z, hz⟩ : ∃ z, z = ge x m 20 := ⟨_, rfl⟩
 rw [← hz] at H ⊢
 refine PRun.pure (xs := [.agg (cellsP 21 xc), .d fun _ => .lit (.int .i64 m)]) (r1 := .d fun _ => .lit (.bool (decide (z < 0)))) tI_ok (by kernel_rfl) Tryz.func5 rfl rfl (by kernel_rfl) ?_
 repeat with_reducible refine jR trivial ?_
 (with_reducible apply hCall); exact H _; with_reducible refine jR trivial ?_
 with_reducible refine jE trivial ?_
 trivial
end Go.Proofs.YtlmbcoecipbblaaGreatDoor
