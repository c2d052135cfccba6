/- edit's gatherer and Tidy, by the engine. -/
import Derived.Test.YtlmbcoecipbblaaGreatDoorGpF
set_option maxRecDepth 100000
set_option maxHeartbeats 8000000
set_option linter.unusedVariables false
set_option linter.unusedSimpArgs false
namespace Go.Proofs.YtlmbcoecipbblaaGreatDoor
open Go.RowKit
open Val (V E)
abbrev Stp := Int × Int × V × E
abbrev tST : TypeId := 81
def gH (b ro ko rp kp : Nat) (o p : List (List DV)) : List (Nat × Ob) := [(rp, .row kp tST 30 fun _ => p), (ro, .row ko tST 30 fun _ => o), (b, .blk [.own ro ko, .own rp kp])]
theorem stepE (s : Stp) (r : List Stp) : encES (s :: r) = (.lit (.int .i64 s.1) :: .lit (.int .i64 s.2.1) :: (encV s.2.2.1 ++ encE s.2.2.2)) :: encES r := by obtain ⟨a, b, v, x⟩ := s; rw [encES]
def stepC (s : Stp) : List DV := .lit (.int .i64 s.1) :: .lit (.int .i64 s.2.1) :: (encV s.2.2.1 ++ encE s.2.2.2)
theorem stepC_len (s : Stp) : (stepC s).length = 30 := by unfold stepC; simp only [List.length_cons, List.length_append, encV_len, encE_len]
theorem encES_ap : ∀ a b : List Stp, encES (a ++ b) = encES a ++ encES b
 | [], b => by rw [encES]; rfl
 | (n, c, v, e) :: r, b => by rw [List.cons_append, encES, encES, encES_ap r b]; rfl
theorem encES_1 (s : Stp) : encES [s] = [stepC s] := by rw [stepE, encES]; rfl
theorem snoc_set {o A : List (List DV)} {z vs E : List DV} {i : Nat} (hi : i = o.length) (hA : A = [z]) (hl : vs.length = z.length) (h : LeC vs E) : LeR ((o ++ A).set i (patchD z 0 vs)) (o ++ [E]) := by
 subst hi hA
 have e : patchD z 0 vs = vs := by unfold patchD; rw [List.take_zero, List.nil_append, Nat.zero_add, hl, List.drop_length, List.append_nil]
 have e2 : (o ++ [z]).set o.length vs = o ++ [vs] := by rw [List.set_append_right _ _ (Nat.le_refl _), Nat.sub_self]; rfl
 rw [e, e2]; exact LeR.app (LeR.of rfl) (LeR.one h)
theorem snoc_get {o A : List (List DV)} {z : List DV} (hA : A = [z]) : (o ++ A)[o.length]? = some z := by subst hA; simp
theorem LeC.rfl' : ∀ a : List DV, LeC a a
 | [] => trivial
 | x :: a => ⟨LeD.of rfl, LeC.rfl' a⟩
theorem LeC.ap : ∀ {a b c d : List DV}, LeC a b → LeC c d → LeC (a ++ c) (b ++ d)
 | [], [], c, d, _, h => h
 | x :: a, y :: b, c, d, h1, h => ⟨h1.1, LeC.ap h1.2 h⟩
def zS30 : List DV := ([.int .i64 0, .int .i64 0, .int .i64 0, .int .u64 0, .string ⟨#[]⟩, .slice none 0 0, .string ⟨#[]⟩, .slice none 0 0, .slice none 0 0, .int .i64 0, .int .i64 0, .int .u64 0, .string ⟨#[]⟩, .slice none 0 0, .string ⟨#[]⟩, .slice none 0 0, .slice none 0 0, .int .i64 0, .int .u64 0, .string ⟨#[]⟩, .slice none 0 0, .string ⟨#[]⟩, .slice none 0 0, .slice none 0 0, .slice none 0 0, .bool false, .string ⟨#[]⟩, .string ⟨#[]⟩, .slice none 0 0, .slice none 0 0] : List Value).map .lit
theorem iP (n : Nat) : (0 : Int) ≤ (((n : Int).toNat : Nat) : Int) := Int.natCast_nonneg _
theorem le_kt {a p : Nat} (h : a ≤ 1000000) (hp : p = 1) : (a + p) * 496 ≤ 140737488355328 := by omega
theorem snoc_lt {o A : List (List DV)} {z : List DV} (hA : A = [z]) : 0 ≤ ((o.length : Nat) : Int) ∧ ((o.length : Nat) : Int) < (((o ++ A).length : Nat) : Int) := by subst hA; simp; omega
theorem sum_set {m m0 q : List (List DV)} {sc : List DV} {s : Stp} {n : Int} (hm : m = m0 ++ [sc]) (hs : sc = stepC s) (s1 : s.1 = 1) (hq : q = m0 ++ [stepC (1, n, s.2.2.1, s.2.2.2)]) : LeR (m.set ((m0.length : Nat) : Int).toNat (patchD sc 1 [.lit (.int .i64 n)])) q := by
 subst hm hs hq
 rw [Int.toNat_natCast, List.set_append_right _ _ (Nat.le_refl _), Nat.sub_self]
 refine LeR.of ?_
 unfold stepC patchD
 simp [s1]
theorem keep_le (c : Int) {cd : DV} (hcd : cd = .lit (.int .i64 c)) : LeC (.lit (.int .i64 1) :: cd :: zS30.drop 2) (stepC (1, c, Val.v0, .mk 0 Val.v0 Val.v0 [] false ByteArray.empty ByteArray.empty [] [])) := by
 subst hcd
 unfold stepC Val.v0 zS30
 simp only [encV, encE, encF, encL, encP, encEF, encES, encEK, List.cons_append, List.nil_append, List.map_cons, List.map_nil, List.drop_succ_cons, List.drop_zero]
 repeat' (first | exact LeD.of rfl | exact LeD.nil | exact trivial | refine And.intro ?_ ?_)
theorem le_bt {a b : Nat} (h : a + b ≤ 2000000) : (a + b) * 496 ≤ 140737488355328 := by omega
theorem flush_run {G : List (Nat × List DV)} (b ro ko rp kp k1 r2 k2 : Nat) (fr : List Nat) (hn : ([b, ro, ko, rp, kp] ++ k1 :: r2 :: k2 :: fr).Nodup) (o p q : List (List DV)) (hq : q = o ++ p) (hl : o.length + p.length ≤ 2000000) :
  PRun Tryz.prog G 98 [.ptr b 0] (gH b ro ko rp kp o p) (k1 :: r2 :: k2 :: fr) (.tup []) (gH b ro k1 r2 k2 q []) := by
 refine PRun.ofA (nb := 5) (q := 3) (f0 := [b, ro, ko, rp, kp]) (xs := [.ptr 0 0]) (H := gH 0 1 2 3 4 o p) (H1 := gH 0 1 5 6 7 q []) (r1 := .tup []) tI_ok (by kernel_rfl) Tryz.func98 rfl rfl (by kernel_rfl) rfl (by simp) hn ?_
 repeat with_reducible refine jR trivial ?_
 with_reducible refine And.intro (le_bt hl) ?_
 with_reducible refine hOrd (by kernel_rfl) ?_
 repeat with_reducible refine jR trivial ?_
 and_intros <;> first | exact LeR.of rfl | exact LeR.of hq.symm
theorem gkeep_run {G : List (Nat × List DV)} (b ro ko rp kp k1 r2 k2 : Nat) (fr : List Nat) (hn : ([b, ro, ko, rp, kp] ++ k1 :: r2 :: k2 :: fr).Nodup) {out puts : List Stp} {o p q : List (List DV)} (ho : o = encES out) (hp : p = encES puts) (hl : out.length + puts.length ≤ 1000000) (c : Int) {cd : DV} (hcd : cd = .lit (.int .i64 c)) (hq : q = encES (Val.addKeepW (out ++ puts) c)) :
  PRun Tryz.prog G 106 [.ptr b 0, .d fun _ => cd] (gH b ro ko rp kp o p) (k1 :: r2 :: k2 :: fr) (.tup []) (gH b ro k1 r2 k2 q []) := by
 refine PRun.ofA (nb := 5) (q := 3) (f0 := [b, ro, ko, rp, kp]) (xs := [.ptr 0 0, .d fun _ => cd]) (H := gH 0 1 2 3 4 o p) (H1 := gH 0 1 5 6 7 q []) (r1 := .tup []) tI_ok (by kernel_rfl) Tryz.func106 rfl rfl (by kernel_rfl) rfl (by simp) hn ?_
 obtain ⟨m, hm⟩ : ∃ z, z = o ++ p := ⟨_, rfl⟩
 have hml : m.length ≤ 1000000 := by rw [hm, ho, hp, List.length_append, encES_length, encES_length]; exact hl
 have hme : m = encES (out ++ puts) := by rw [hm, ho, hp, encES_ap]
 have hlw : IntKind.i64.wrap ((m.length : Int) - 1) = (m.length : Int) - 1 := wrap_in (by omega) (by omega)
 by_cases c1 : c < 1
 ·rw [Val.addKeepW_lt c1, ← hme] at hq
  repeat with_reducible refine jR trivial ?_
  with_reducible apply hCall
  ·exact flush_run 0 1 2 3 4 _ _ _ _ (by decide) o p m hm (by rw [← List.length_append, ← hm]; omega)
  repeat with_reducible refine jR (J3 hlw (cellQ hcd) (eq_T c1)) ?_
  and_intros <;> first | exact LeR.of rfl | exact LeR.of hq.symm
 rcases eq_snoc (out ++ puts) with h0 | ⟨l0, s, h0⟩
 ·have hm0 : m = [] := by rw [hme, h0, encES]
  have hneg : ¬ ((0 : Int) ≤ (m.length : Int) - 1) := by rw [hm0]; decide
  rw [Val.addKeepW_new c1 (by rintro ⟨l, s, e, _⟩; rw [h0] at e; cases l <;> cases e), encES_ap, ← hme, encES_1] at hq
  repeat with_reducible refine jR trivial ?_
  with_reducible apply hCall
  ·exact flush_run 0 1 2 3 4 _ _ _ _ (by decide) o p m hm (by rw [← List.length_append, ← hm]; omega)
  repeat with_reducible refine jR (J4 hlw (cellQ hcd) c1 hneg) ?_
  with_reducible refine And.intro (le_kt hml rfl) ?_
  with_reducible refine And.intro (snoc_lt (z := zS30) rfl) ?_
  with_reducible refine And.intro (iP _) ?_
  (with_reducible refine jI zS30 ?_ ?_); exact (snoc_get rfl)
  repeat with_reducible refine jR trivial ?_
  rw [hq]
  exact snoc_set (Int.toNat_natCast _) rfl rfl (keep_le c hcd)
 ·rw [h0] at hme
  rw [encES_ap, encES_1] at hme
  obtain ⟨m0, hm0⟩ : ∃ z, z = encES l0 := ⟨_, rfl⟩
  rw [← hm0] at hme
  have hmn : (m.length : Int) - 1 = (m0.length : Int) := by rw [hme, List.length_append]; simp
  have hpos : (0 : Int) ≤ (m0.length : Int) := Int.natCast_nonneg _
  have hlt : (m0.length : Int) < (m.length : Int) := by omega
  have hlw : IntKind.i64.wrap (m0.length : Int) = (m0.length : Int) := wrap_in (by omega) (by omega)
  have hgt : m[m0.length]? = some (stepC s) := by rw [hme]; exact snoc_get rfl
  have q0 : cellAt (stepC s) 0 = .lit (.int .i64 s.1) := rfl
  have q1 : cellAt (stepC s) 1 = .lit (.int .i64 s.2.1) := rfl
  obtain ⟨sc, hsc⟩ : ∃ z, z = stepC s := ⟨_, rfl⟩
  have l30 : sc.length = 30 := by rw [hsc]; exact stepC_len s
  rw [← hsc] at hgt q0 q1 hme
  by_cases s1 : s.1 = 1
  ·rw [h0, Val.addKeepW_sum c1 s1, encES_ap, ← hm0, encES_1] at hq
   repeat with_reducible refine jR trivial ?_
   with_reducible apply hCall
   ·exact flush_run 0 1 2 3 4 _ _ _ _ (by decide) o p m hm (by rw [← List.length_append, ← hm]; omega)
   repeat with_reducible refine jR (J6 hlw (cellQ hcd) c1 hmn (eq_T hpos) (eq_T hlt)) ?_
   with_reducible refine And.intro (iP _) ?_
   (with_reducible refine jI sc ?_ ?_); exact hgt
   repeat with_reducible refine jR (J6 l30 (cellQ q0) (eq_T s1) (eq_T hpos) (eq_T hlt) (cellQ hcd)) ?_
   with_reducible refine And.intro (iP _) ?_
   (with_reducible refine jI sc ?_ ?_); exact hgt
   repeat with_reducible refine jR (J5 l30 (cellQ q1) (eq_T hpos) (eq_T hlt) (cellQ hcd)) ?_
   with_reducible refine And.intro (iP _) ?_
   (with_reducible refine jI sc ?_ ?_); exact hgt
   repeat with_reducible refine jR trivial ?_
   exact sum_set hme hsc s1 hq
  ·rw [Val.addKeepW_new c1 (by rintro ⟨l, t, e, e2⟩; rw [h0] at e; obtain ⟨_, e⟩ := List.append_inj' e rfl; cases e; exact s1 e2), encES_ap, h0, encES_ap, ← hm0, encES_1, ← hsc, encES_1, ← hme] at hq
   repeat with_reducible refine jR trivial ?_
   with_reducible apply hCall
   ·exact flush_run 0 1 2 3 4 _ _ _ _ (by decide) o p m hm (by rw [← List.length_append, ← hm]; omega)
   repeat with_reducible refine jR (J6 hlw (cellQ hcd) c1 hmn (eq_T hpos) (eq_T hlt)) ?_
   with_reducible refine And.intro (iP _) ?_
   (with_reducible refine jI sc ?_ ?_); exact hgt
   repeat with_reducible refine jR (J3 l30 (cellQ q0) s1) ?_
   with_reducible refine And.intro (le_kt hml rfl) ?_
   with_reducible refine And.intro (snoc_lt (z := zS30) rfl) ?_
   with_reducible refine And.intro (iP _) ?_
   (with_reducible refine jI zS30 ?_ ?_); exact (snoc_get rfl)
   repeat with_reducible refine jR trivial ?_
   rw [hq]
   exact snoc_set (Int.toNat_natCast _) rfl rfl (keep_le c hcd)
theorem stepC_at {s : Stp} {sc : List DV} (h : sc = stepC s) : cellAt sc 0 = .lit (.int .i64 s.1) ∧ cellAt sc 1 = .lit (.int .i64 s.2.1) ∧ cellAt sc 9 = .lit (.int .i64 s.2.2.2.kind) :=
 ⟨by rw [h]; rfl, by rw [h]; rfl, by rw [h]; show cellAt (encV s.2.2.1 ++ encE s.2.2.2) (0 + 7) = _; rw [cell_app2 (encV_len _)]; exact (cE _).1⟩
theorem le30 {sc : List DV} (h : sc.length = 30) : LeC ((List.range 30).map fun i => cellAt sc i) sc := by
 have : ((List.range 30).map fun i => cellAt sc i) = sc := by
  refine List.ext_getElem (by simp [h]) (fun i h1 h2 => ?_)
  simp [cellAt, List.getD_eq_getElem?_getD, List.getElem?_eq_getElem h2]
 rw [this]; exact LeC.rfl' sc
theorem stepA_run {G : List (Nat × List DV)} (b ro ko rp kp k1 r2 k2 : Nat) (fr : List Nat) (hn : ([b, ro, ko, rp, kp] ++ k1 :: r2 :: k2 :: fr).Nodup) {out puts : List Stp} {o p q : List (List DV)} (ho : o = encES out) (hp : p = encES puts) (hl : out.length + puts.length ≤ 1000000) {s : Stp} {sc : List DV} (hs : sc = stepC s) (hk : (s.1 = 1 ∧ 1 ≤ s.2.1) ∨ s.1 = 4) (hq : q = encES (Val.tstepW (out, puts) s).1) :
  PRun Tryz.prog G 97 [.ptr b 0, .agg (cellsP 30 sc)] (gH b ro ko rp kp o p) (k1 :: r2 :: k2 :: fr) (.tup []) (gH b ro k1 r2 k2 q []) := by
 refine PRun.ofA (nb := 5) (q := 3) (f0 := [b, ro, ko, rp, kp]) (xs := [.ptr 0 0, .agg (cellsP 30 sc)]) (H := gH 0 1 2 3 4 o p) (H1 := gH 0 1 5 6 7 q []) (r1 := .tup []) tI_ok (by kernel_rfl) Tryz.func97 rfl rfl (by kernel_rfl) rfl (by simp) hn ?_
 obtain ⟨q0, q1, q9⟩ := stepC_at hs
 have h30 : sc.length = 30 := by rw [hs]; exact stepC_len s
 unfold Val.tstepW at hq
 by_cases h1 : s.1 = 1
 ·have h2 : 1 ≤ s.2.1 := by omega
  rw [if_pos ⟨h1, h2⟩] at hq
  repeat with_reducible refine jR (J4 (cellQ q0) (cellQ q1) (eq_T h1) (eq_T h2)) ?_
  (with_reducible apply hCall); exact gkeep_run 0 1 2 3 4 _ _ _ _ (by decide) ho hp hl s.2.1 q1 hq; with_reducible refine jR trivial ?_
  repeat with_reducible refine jR trivial ?_
  trivial
 ·have h4 : s.1 = 4 := by omega
  rw [if_neg (fun h => h1 h.1)] at hq
  by_cases h5 : s.2.2.2.kind = 0
  ·rw [if_pos ⟨h4, h5⟩] at hq
   repeat with_reducible refine jR (J5 (cellQ q0) h1 (eq_T h4) (cellQ q9) (eq_T h5)) ?_
   (with_reducible apply hCall); exact gkeep_run 0 1 2 3 4 _ _ _ _ (by decide) ho hp hl 1 rfl hq; with_reducible refine jR trivial ?_
   repeat with_reducible refine jR trivial ?_
   trivial
  ·rw [if_neg (fun h => h5 h.2), if_pos h4] at hq
   obtain ⟨m, hm⟩ : ∃ z, z = o ++ p := ⟨_, rfl⟩
   have hml : m.length ≤ 1000000 := by rw [hm, ho, hp, List.length_append, encES_length, encES_length]; exact hl
   rw [encES_ap, encES_ap, encES_1, ← hs, ← ho, ← hp, ← hm] at hq
   repeat with_reducible refine jR (J5 (cellQ q0) h1 (eq_T h4) (cellQ q9) h5) ?_
   (with_reducible apply hCall); exact flush_run 0 1 2 3 4 _ _ _ _ (by decide) o p m hm (by rw [← List.length_append, ← hm]; omega); with_reducible refine jR trivial ?_
   repeat with_reducible refine jR trivial ?_
   with_reducible refine And.intro (le_kt hml rfl) ?_
   with_reducible refine And.intro (snoc_lt (z := zS30) rfl) ?_
   with_reducible refine And.intro (iP _) ?_
   (with_reducible refine jI zS30 ?_ ?_); exact (snoc_get rfl)
   repeat with_reducible refine jR trivial ?_
   rw [hq]
   exact snoc_set (Int.toNat_natCast _) rfl rfl (le30 h30)
theorem stepB_run {G : List (Nat × List DV)} (b ro ko rp kp k1 : Nat) (fr : List Nat) (hn : ([b, ro, ko, rp, kp] ++ k1 :: fr).Nodup) {o p q : List (List DV)} (hml : o.length ≤ 1000000) {s : Stp} {sc : List DV} (hs : sc = stepC s) (hk : s.1 = 2) (hq : q = o ++ [sc]) :
  PRun Tryz.prog G 97 [.ptr b 0, .agg (cellsP 30 sc)] (gH b ro ko rp kp o p) (k1 :: fr) (.tup []) (gH b ro k1 rp kp q p) := by
 refine PRun.ofA (nb := 5) (q := 1) (f0 := [b, ro, ko, rp, kp]) (xs := [.ptr 0 0, .agg (cellsP 30 sc)]) (H := gH 0 1 2 3 4 o p) (H1 := gH 0 1 5 3 4 q p) (r1 := .tup []) tI_ok (by kernel_rfl) Tryz.func97 rfl rfl (by kernel_rfl) rfl (by simp) hn ?_
 obtain ⟨q0, q1, q9⟩ := stepC_at hs
 have h30 : sc.length = 30 := by rw [hs]; exact stepC_len s
 have h1 : ¬ s.1 = 1 := by omega
 have h4 : ¬ s.1 = 4 := by omega
 have h2 : ¬ s.1 = 2 ∨ s.1 = 2 := by omega
 clear h2
 repeat with_reducible refine jR (J4 (cellQ q0) h1 h4 (eq_T hk)) ?_
 with_reducible refine And.intro (le_kt hml rfl) ?_
 with_reducible refine And.intro (snoc_lt (z := zS30) rfl) ?_
 with_reducible refine And.intro (iP _) ?_
 (with_reducible refine jI zS30 ?_ ?_); exact (snoc_get rfl)
 repeat with_reducible refine jR trivial ?_
 rw [hq]
 exact snoc_set (Int.toNat_natCast _) rfl rfl (le30 h30)
theorem stepC_run {G : List (Nat × List DV)} (b ro ko rp kp k1 : Nat) (fr : List Nat) (hn : ([b, ro, ko, rp, kp] ++ k1 :: fr).Nodup) {o p q : List (List DV)} (hml : p.length ≤ 1000000) {s : Stp} {sc : List DV} (hs : sc = stepC s) (hk : s.1 = 3) (hq : q = p ++ [sc]) :
  PRun Tryz.prog G 97 [.ptr b 0, .agg (cellsP 30 sc)] (gH b ro ko rp kp o p) (k1 :: fr) (.tup []) (gH b ro ko rp k1 o q) := by
 refine PRun.ofA (nb := 5) (q := 1) (f0 := [b, ro, ko, rp, kp]) (xs := [.ptr 0 0, .agg (cellsP 30 sc)]) (H := gH 0 1 2 3 4 o p) (H1 := gH 0 1 2 3 5 o q) (r1 := .tup []) tI_ok (by kernel_rfl) Tryz.func97 rfl rfl (by kernel_rfl) rfl (by simp) hn ?_
 obtain ⟨q0, q1, q9⟩ := stepC_at hs
 have h30 : sc.length = 30 := by rw [hs]; exact stepC_len s
 have h1 : ¬ s.1 = 1 := by omega
 have h4 : ¬ s.1 = 4 := by omega
 have h2 : ¬ s.1 = 2 ∨ s.1 = 2 := by omega
 have h2 : ¬ s.1 = 2 := by omega
 repeat with_reducible refine jR (J5 (cellQ q0) h1 h4 h2 (eq_T hk)) ?_
 with_reducible refine And.intro (le_kt hml rfl) ?_
 with_reducible refine And.intro (snoc_lt (z := zS30) rfl) ?_
 with_reducible refine And.intro (iP _) ?_
 (with_reducible refine jI zS30 ?_ ?_); exact (snoc_get rfl)
 repeat with_reducible refine jR trivial ?_
 rw [hq]
 exact snoc_set (Int.toNat_natCast _) rfl rfl (le30 h30)
theorem stepD_run {G : List (Nat × List DV)} (b ro ko rp kp : Nat) (fr : List Nat) (hn : ([b, ro, ko, rp, kp] ++ fr).Nodup) {o p : List (List DV)} {s : Stp} {sc : List DV} (hs : sc = stepC s) (hk : ¬ (s.1 = 1 ∧ 1 ≤ s.2.1) ∧ ¬ s.1 = 4 ∧ ¬ s.1 = 2 ∧ ¬ s.1 = 3) :
  PRun Tryz.prog G 97 [.ptr b 0, .agg (cellsP 30 sc)] (gH b ro ko rp kp o p) fr (.tup []) (gH b ro ko rp kp o p) := by
 refine PRun.ofA (nb := 5) (q := 0) (f0 := [b, ro, ko, rp, kp]) (xs := [.ptr 0 0, .agg (cellsP 30 sc)]) (H := gH 0 1 2 3 4 o p) (H1 := gH 0 1 2 3 4 o p) (r1 := .tup []) tI_ok (by kernel_rfl) Tryz.func97 rfl rfl (by kernel_rfl) rfl (by simp) hn ?_
 obtain ⟨q0, q1, q9⟩ := stepC_at hs
 obtain ⟨h1, h4, h2, h3⟩ := hk
 by_cases h0 : s.1 = 1
 ·have h5 : ¬ 1 ≤ s.2.1 := fun h => h1 ⟨h0, h⟩
  have e4 : ¬ (1 : Int) = 4 := by decide
  have e2 : ¬ (1 : Int) = 2 := by decide
  have e3 : ¬ (1 : Int) = 3 := by decide
  repeat with_reducible refine jR (J7 (cellQ q0) (cellQ q1) (eq_T h0) h5 h4 h2 h3) ?_
  trivial
 ·repeat with_reducible refine jR (J5 (cellQ q0) h0 h4 h2 h3) ?_
  trivial
structure TX (fl : List (List DV)) (R : List Stp × List Stp) where
 i : Nat
 rs : List Stp
 out : List Stp
 puts : List Stp
 o : List (List DV)
 p : List (List DV)
 hd : fl.drop i = encES rs
 ho : o = encES out
 hp : p = encES puts
 hr : rs.foldl Val.tstepW (out, puts) = R
 hl : out.length + puts.length + rs.length ≤ 900000
def tdS (fl : List (List DV)) (i : Nat) (o p : List (List DV)) : Go.Proofs.YtlmbcoecipbblaaGreatDoor.St := ⟨[(3, .ptr 0 0), (8, .d fun _ => .sl fl), (9, .d fun _ => .lit (.int .i64 fl.length)), (10, .d fun _ => .lit (.int .i64 i))], [(0, .blk [.own 1 2, .own 3 4]), (1, .row 2 tST 30 fun _ => o), (3, .row 4 tST 30 fun _ => p)], 5, 0⟩
def tdQ (o p : List (List DV)) : Go.Proofs.YtlmbcoecipbblaaGreatDoor.St := ⟨[(3, .ptr 0 0)], [(0, .blk [.own 1 2, .own 3 4]), (1, .row 2 tST 30 fun _ => o), (3, .row 4 tST 30 fun _ => p)], 5, 0⟩
theorem tidy_run {G : List (Nat × List DV)} {l : List Stp} (hlen : l.length ≤ 900000) (fr : List Nat) : PRun Tryz.prog G 88 [.d fun _ => .sl (encES l)] [] fr (.d fun _ => .sl (encES ((Val.tidyW l).1 ++ (Val.tidyW l).2))) [] := by
 obtain ⟨fl, hfl⟩ : ∃ z, z = encES l := ⟨_, rfl⟩
 obtain ⟨R, hR⟩ : ∃ z, z = Val.tidyW l := ⟨_, rfl⟩
 obtain ⟨q, hq⟩ : ∃ z, z = encES (R.1 ++ R.2) := ⟨_, rfl⟩
 rw [← hR, ← hq, ← hfl]
 refine PRun.pure (xs := [.d fun _ => .sl fl]) (r1 := .d fun _ => .sl q) tI_ok (by kernel_rfl) Tryz.func88 rfl rfl (by kernel_rfl) ?_
 repeat with_reducible refine jR trivial ?_
 refine hLoop (loop_okK (ι := TX fl R) tI_ok (by kernel_rfl) (fun x => tdS fl x.i x.o x.p) (fun x => x.rs.length) ⟨0, l, [], [], [], [], hfl, by rw [encES], by rw [encES], hR.symm, by simpa using hlen⟩ ?_ (fun x kn => ?_))
 ·with_reducible refine jR trivial ?_
  and_intros <;> first | exact LeD.of rfl | exact LeR.of rfl
 obtain ⟨i, rs, out, puts, o, p, hd, ho, hp, hr, hl⟩ := x
 show holds _ _ _ (ev tI G _ _ (tdS fl i o p)) _
 have hmx := kn.1 8 _ fl rfl rfl
 clear kn
 have hi0 := Int.natCast_nonneg i
 rcases rs with _ | ⟨s, rs⟩
 rotate_left
 ·obtain ⟨qc, hqc⟩ : ∃ z, z = stepC s := ⟨_, rfl⟩
  rw [stepE, show (_ :: _ :: (encV s.2.2.1 ++ encE s.2.2.2) : List DV) = stepC s from rfl, ← hqc] at hd
  obtain ⟨g1, g2, g3⟩ := drop_c hd
  have hw := wrap_mx g2 hmx
  have q8 : qc.length = 30 := by rw [hqc]; exact stepC_len s
  obtain ⟨i2, hi2⟩ : ∃ z, z = i + 1 := ⟨_, rfl⟩
  have hlo : o.length ≤ 1000000 := by rw [ho, encES_length]; omega
  have hlp : p.length ≤ 1000000 := by rw [hp, encES_length]; omega
  by_cases hA : (s.1 = 1 ∧ 1 ≤ s.2.1) ∨ s.1 = 4
  ·obtain ⟨t, htt⟩ : ∃ z, z = (Val.tstepW (out, puts) s).1 := ⟨_, rfl⟩
   have ht : Val.tstepW (out, puts) s = (t, []) := by
    rw [htt]; unfold Val.tstepW
    split
    ·rfl
    ·split
     ·rfl
     ·rw [if_pos (by omega)]
   have hlt := Val.tstepW_len (out, puts) s
   rw [ht] at hlt
   simp only [List.length_nil] at hlt
   obtain ⟨o2, ho2⟩ : ∃ z, z = encES t := ⟨_, rfl⟩
   have HO := ho2
   have HP : ([] : List (List DV)) = encES [] := by rw [encES]
   repeat with_reducible refine jR (J2 (eq_T (Int.ofNat_lt.2 g2)) (eq_T hi0)) ?_
   (with_reducible refine jI qc ?_ ?_); exact g1
   repeat with_reducible refine jR q8 ?_
   with_reducible apply hCall
   ·exact stepA_run 0 1 2 3 4 _ _ _ _ (by decide) ho hp (by omega) hqc hA (htt ▸ ho2)
   repeat with_reducible refine jR hw ?_
   with_reducible refine Exists.intro ⟨i2, rs, t, [], o2, [], by rw [hi2]; exact g3, HO, HP, by rw [← hr, List.foldl_cons, ht], by simp only [List.length_cons, List.length_nil] at hl ⊢; omega⟩ (And.intro (Nat.lt_succ_self _) ?_)
   with_reducible refine jR trivial ?_
   subst hi2
   and_intros <;> first | exact LeD.of rfl | exact LeD.of (by rw [hw]; rfl) | exact LeR.of rfl
  by_cases h2 : s.1 = 2
  ·have ht : Val.tstepW (out, puts) s = (out ++ [s], puts) := by unfold Val.tstepW; simp [h2]
   obtain ⟨o2, ho2⟩ : ∃ z, z = o ++ [qc] := ⟨_, rfl⟩
   have HO : o2 = encES (out ++ [s]) := by rw [ho2, encES_ap, encES_1, ho, hqc]
   have HP := hp
   have hlt : (out ++ [s]).length = out.length + 1 := by simp
   repeat with_reducible refine jR (J2 (eq_T (Int.ofNat_lt.2 g2)) (eq_T hi0)) ?_
   (with_reducible refine jI qc ?_ ?_); exact g1
   repeat with_reducible refine jR q8 ?_
   with_reducible apply hCall
   ·exact stepB_run 0 1 2 3 4 _ _ (by decide) hlo hqc h2 ho2
   repeat with_reducible refine jR hw ?_
   with_reducible refine Exists.intro ⟨i2, rs, (out ++ [s]), puts, o2, p, by rw [hi2]; exact g3, HO, HP, by rw [← hr, List.foldl_cons, ht], by simp only [List.length_cons, List.length_nil] at hl ⊢; omega⟩ (And.intro (Nat.lt_succ_self _) ?_)
   with_reducible refine jR trivial ?_
   subst hi2
   and_intros <;> first | exact LeD.of rfl | exact LeD.of (by rw [hw]; rfl) | exact LeR.of rfl
  by_cases h3 : s.1 = 3
  ·have ht : Val.tstepW (out, puts) s = (out, puts ++ [s]) := by unfold Val.tstepW; simp [h3]
   obtain ⟨p2, hp2⟩ : ∃ z, z = p ++ [qc] := ⟨_, rfl⟩
   have HO := ho
   have HP : p2 = encES (puts ++ [s]) := by rw [hp2, encES_ap, encES_1, hp, hqc]
   have hlt : (puts ++ [s]).length = puts.length + 1 := by simp
   repeat with_reducible refine jR (J2 (eq_T (Int.ofNat_lt.2 g2)) (eq_T hi0)) ?_
   (with_reducible refine jI qc ?_ ?_); exact g1
   repeat with_reducible refine jR q8 ?_
   with_reducible apply hCall
   ·exact stepC_run 0 1 2 3 4 _ _ (by decide) hlp hqc h3 hp2
   repeat with_reducible refine jR hw ?_
   with_reducible refine Exists.intro ⟨i2, rs, out, (puts ++ [s]), o, p2, by rw [hi2]; exact g3, HO, HP, by rw [← hr, List.foldl_cons, ht], by simp only [List.length_cons, List.length_nil] at hl ⊢; omega⟩ (And.intro (Nat.lt_succ_self _) ?_)
   with_reducible refine jR trivial ?_
   subst hi2
   and_intros <;> first | exact LeD.of rfl | exact LeD.of (by rw [hw]; rfl) | exact LeR.of rfl
  have ht : Val.tstepW (out, puts) s = (out, puts) := by
   unfold Val.tstepW
   rw [if_neg (by omega), if_neg (by omega), if_neg (by omega), if_neg h2, if_neg h3]
  have HO := ho
  have HP := hp
  repeat with_reducible refine jR (J2 (eq_T (Int.ofNat_lt.2 g2)) (eq_T hi0)) ?_
  (with_reducible refine jI qc ?_ ?_); exact g1
  repeat with_reducible refine jR q8 ?_
  with_reducible apply hCall
  ·exact stepD_run 0 1 2 3 4 _ (by decide) hqc ⟨by omega, by omega, h2, h3⟩
  repeat with_reducible refine jR hw ?_
  with_reducible refine Exists.intro ⟨i2, rs, out, puts, o, p, by rw [hi2]; exact g3, HO, HP, by rw [← hr, List.foldl_cons, ht], by simp only [List.length_cons, List.length_nil] at hl ⊢; omega⟩ (And.intro (Nat.lt_succ_self _) ?_)
  with_reducible refine jR trivial ?_
  subst hi2
  and_intros <;> first | exact LeD.of rfl | exact LeD.of (by rw [hw]; rfl) | exact LeR.of rfl
 have hge := drop_n (hd.trans (by rw [encES]))
 have hr : (out, puts) = R := hr
 have hqe : q = o ++ p := by rw [hq, ← hr, encES_ap, ho, hp]
 repeat with_reducible refine jR hge ?_
 with_reducible refine Exists.intro (tdQ o p) (And.intro ?_ ?_)
 ·with_reducible refine jR trivial ?_
  trivial
 repeat with_reducible refine jR trivial ?_
 (with_reducible apply hCall); exact flush_run 0 1 2 3 4 _ _ _ _ (by decide) o p q hqe (by rw [ho, hp, encES_length, encES_length]; omega); with_reducible refine jR trivial ?_
 repeat with_reducible refine jR trivial ?_
 with_reducible refine jE trivial ?_
 trivial
end Go.Proofs.YtlmbcoecipbblaaGreatDoor
