/- apply.row, do and Value, by the engine. -/
import Derived.Test.YtlmbcoecipbblaaGreatDoorEAp2
set_option maxRecDepth 100000
set_option maxHeartbeats 8000000
set_option linter.unusedVariables false
set_option linter.unusedSimpArgs false
namespace Go.Proofs.YtlmbcoecipbblaaGreatDoor
open Go.RowKit
open Val (V E right cmp eright ado adoF adoS adoK Res avalue esm vmx vmxL esz eszF eszS eszK get find withV putV v0 allF allS allK mkL KI KP headKind setRest partB stepB)
theorem er_neq (er : Errs) (n : Nat) : bopD .ifc .neq (.lit (er.of n)) (.lit .nilIface) = some (.lit (.bool true)) ∧ BopOk .ifc .neq (.lit (er.of n)) (.lit .nilIface) = True := by
 obtain ⟨t, v, h⟩ := er_face er n
 rw [h]
 have q2 : bopD .ifc .neq (.lit (.iface t v)) (.lit .nilIface) = some (.lit (.bool true)) := by simp [bopD, bopV]
 exact ⟨q2, eq_T ⟨_, q2⟩⟩
structure ArX (fl : List (List DV)) (ok : Stp → Prop) (mv : Nat) (R : Res (List V × List V)) where
 i : Nat
 rs : List Stp
 ls : List V
 os : List V
 l : List (List DV)
 o : List (List DV)
 hd : fl.drop i = encES rs
 hl : l = encL ls
 ho : o = encL os
 hr : adoS rs ls os = R
 hok : ∀ x ∈ rs, ok x
 hm : ∀ x ∈ ls, right x = true ∧ vmx x ≤ mv
 hb : os.length + ls.length + rs.length ≤ 300000
def arS (xc vc : List DV) (fl : List (List DV)) (i : Nat) (l o : List (List DV)) : Go.Proofs.YtlmbcoecipbblaaGreatDoor.St := ⟨[(2, .ptr 0 0), (3, .ptr 1 0), (4, .ptr 2 0), (5, .d fun _ => .lit .nilIface), (6, .ptr 3 0), (25, .d fun _ => .sl fl), (26, .d fun _ => .lit (.int .i64 fl.length)), (27, .d fun _ => .lit (.int .i64 i))],
 [(0, .blk (cellsP 21 xc)), (1, .blk (cellsP 7 vc)), (2, .blk (List.replicate 7 .dead)), (3, .blk [.d fun _ => .sl l, .own 4 5]), (4, .row 5 tVV 7 fun _ => o)], 6, 0⟩
def arQ (l o : List (List DV)) : Go.Proofs.YtlmbcoecipbblaaGreatDoor.St := ⟨[(4, .ptr 2 0), (5, .d fun _ => .lit .nilIface), (6, .ptr 3 0)], [(2, .blk (List.replicate 7 .dead)), (3, .blk [.d fun _ => .sl l, .own 4 5]), (4, .row 5 tVV 7 fun _ => o)], 6, 0⟩
def rowR (e : E) (v : V) : Res V := if v.kind = 4 ∨ v.kind = 0 then (match adoS e.steps v.list [] with
 | .bad b => .bad b
 | .ok (left, out) => if 0 < left.length then .bad 13 else .ok (mkL out)) else .bad 13
theorem vmxL_in : ∀ {l : List V} {x : V}, x ∈ l → vmx x ≤ vmxL l
 | v :: r, x, h => by
  rw [vmxL]
  rcases List.mem_cons.1 h with rfl | h
  ·exact Nat.le_max_left _ _
  ·have := vmxL_in h; omega
theorem arow_run (er : Errs) (e : E) (v : V) (hr : right v = true) (hb : vmx v + esz e ≤ 90000) (hall : allS e.steps) (HS : ∀ y ∈ e.steps, y.1 = 4 → DoE er y.2.2.2) : ApAt er 91 e v (rowR e v) := by
 obtain ⟨c, ev, HR⟩ := rv_ex er (rowR e v)
 refine ⟨c, ev, HR, fun xc vc hx hv fr => ?_⟩
 have pd := Val.esz_parts e
 have pv := Val.vmx_parts v
 have z2 := eszS_length e.steps
 have x19 : cellAt xc 19 = .sl (encES e.steps) := by rw [hx]; exact (cE _).2.2.2.2.2.2.2.1
 have V0 := (cV v).1; rw [← hv] at V0
 have V5 := (cV v).2.2.2.2.2.1; rw [← hv] at V5
 obtain ⟨fl, hfl⟩ : ∃ z, z = encES e.steps := ⟨_, rfl⟩
 rw [← hfl] at x19
 obtain ⟨l0, hl0⟩ : ∃ z, z = encL v.list := ⟨_, rfl⟩
 rw [← hl0] at V5
 obtain ⟨kv, hkv⟩ : ∃ z, z = v.kind := ⟨_, rfl⟩
 have hrl : kv = 4 ∨ kv = 0 → ∀ x ∈ v.list, right x = true ∧ vmx x ≤ vmx v := fun hk x hx => ⟨by have h1 := (Val.right_list hr (hkv ▸ hk)).2; rw [Val.rightL_all] at h1; have h2 := List.all_eq_true.1 h1 x hx; unfold partB at h2; simp only [Bool.and_eq_true] at h2; exact h2.2, Nat.le_trans (vmxL_in hx) (by omega)⟩
 unfold rowR at HR
 rw [← hkv] at V0 HR
 refine PRun.pure (xs := [.agg (cellsP 21 xc), .agg (cellsP 7 vc)]) (r1 := .tup [.agg (cellsP 7 c), .d fun _ => ev]) tI_ok (by kernel_rfl) Tryz.func91 rfl rfl (by kernel_rfl) ?_
 by_cases k5 : kv = 4 ∨ kv = 0
 rotate_left
 ·rw [if_neg k5] at HR
  obtain ⟨rfl, rfl⟩ := HR
  have k5a : ¬ kv = 4 := fun h => k5 (.inl h)
  have k0a : ¬ kv = 0 := fun h => k5 (.inr h)
  repeat with_reducible refine jR (J3 (cellQ V0) k5a k0a) ?_
  with_reducible refine jE trivial ?_
  and_intros <;> exact LeD.of rfl
 rw [if_pos k5] at HR
 obtain ⟨R, hR⟩ : ∃ z, z = adoS e.steps v.list [] := ⟨_, rfl⟩
 rw [← hR] at HR
 have hk5 := k5
 rcases k5 with k5 | k5
 have kf := eq_T k5
 have kg := kf
 rotate_left
 have kf : ¬ kv = 4 := by omega
 have kg := eq_T k5
 all_goals
  repeat with_reducible refine jR (J4 (cellQ V0) kf kg (cellQ x19)) ?_
  refine hLoop (loop_okK (ι := ArX fl (fun s => stepB s.1 s.2.1 s.2.2.1 s.2.2.2 ∧ (s.1 = 4 → DoE er s.2.2.2) ∧ vmx v + esz s.2.2.2 ≤ 90000) (vmx v) R) tI_ok (by kernel_rfl) (fun x => arS xc vc fl x.i x.l x.o) (fun x => x.rs.length) ⟨0, e.steps, v.list, [], l0, [], hfl, hl0, by rw [encL], hR.symm, fun x h => ⟨hall x h, HS x h, by have := Val.eszS_mem h; omega⟩, hrl hk5, by simp only [List.length_nil]; omega⟩ ?_ (fun x kn => ?_))
  ·with_reducible refine jR trivial ?_
   and_intros <;> first | exact LeD.of rfl | exact LeD.of x19 | exact LeD.of V5 | exact LeR.of rfl
  obtain ⟨i, rs, ls, os, l, o, hd, hl, ho, hrr, hok, hm, hbb⟩ := x
  show holds _ _ _ (Go.Proofs.YtlmbcoecipbblaaGreatDoor.ev tI (gE er) _ _ (arS xc vc fl i l o)) _
  have hmx := kn.1 25 _ fl rfl rfl
  clear kn
  have hi0 := Int.natCast_nonneg i
  have h7 : ∀ x ∈ l, x.length = 7 := fun x hx => encL_7 ls x (hl ▸ hx)
  have hll : l.length = ls.length := by rw [hl, encL_length]
  have hol : o.length = os.length := by rw [ho, encL_length]
  rcases rs with _ | ⟨s, rs⟩
  rotate_left
  ·obtain ⟨qc, hqc⟩ : ∃ z, z = stepC s := ⟨_, rfl⟩
   rw [stepE, show (_ :: _ :: (encV s.2.2.1 ++ encE s.2.2.2) : List DV) = stepC s from rfl, ← hqc] at hd
   obtain ⟨g1, g2, g3⟩ := drop_c hd
   have hw := wrap_mx g2 hmx
   have q8 : qc.length = 30 := by rw [hqc]; exact stepC_len s
   obtain ⟨q0, q1, _⟩ := stepC_at hqc
   obtain ⟨hB, hD, hz⟩ := hok s (List.mem_cons_self ..)
   obtain ⟨i2, hi2⟩ : ∃ z, z = i + 1 := ⟨_, rfl⟩
   simp only [List.length_cons] at hbb
   obtain ⟨k, cc, sv, se⟩ := s
   simp only at hB hD hz q0 q1
   rw [Val.adoS.eq_def] at hrr
   simp only at hrr
   rcases hB with ⟨k1, c1, c2⟩ | ⟨k2, _⟩ | ⟨k3, _⟩ | ⟨k4, he4⟩
   ·have HO := fun fr => aof_run (G := gE er) (k := k) (f := 110) (.inl ⟨k1, rfl⟩) q0 fr
    rw [if_pos k1] at hrr
    by_cases hlc : (ls.length : Int) < cc
    ·rw [if_pos hlc] at hrr
     subst hrr
     obtain ⟨rfl, rfl⟩ : c = zVd ∧ ev = .lit (er.of 13) := HR
     repeat with_reducible refine jR (J2 (eq_T (Int.ofNat_lt.2 g2)) (eq_T hi0)) ?_
     (with_reducible refine jI qc ?_ ?_); exact g1
     repeat with_reducible refine jR q8 ?_
     (with_reducible apply hCall); exact HO _; with_reducible refine jR trivial ?_
     repeat with_reducible refine jR trivial ?_
     (with_reducible apply hCall); exact rkeep_bad er 3 4 5 _ _ (by decide) h7 (by omega) hqc (by rw [hll]; exact hlc); with_reducible refine jR (er_neq er 13) ?_
     repeat with_reducible refine jR (er_neq er 13) ?_
     with_reducible refine Exists.intro (apQ (.lit (er.of 13))) (And.intro ?_ ?_)
     ·with_reducible refine jR trivial ?_
      and_intros <;> exact LeD.of rfl
     repeat with_reducible refine jR trivial ?_
     with_reducible refine jE trivial ?_
     and_intros <;> exact LeD.of rfl
    ·rw [if_neg hlc] at hrr
     obtain ⟨l2, hl2⟩ : ∃ z, z = l.drop cc.toNat := ⟨_, rfl⟩
     obtain ⟨o2, ho2⟩ : ∃ z, z = o ++ l.take cc.toNat := ⟨_, rfl⟩
     obtain ⟨ls2, hls2⟩ : ∃ z, z = ls.drop cc.toNat := ⟨_, rfl⟩
     obtain ⟨os2, hos2⟩ : ∃ z, z = os ++ ls.take cc.toNat := ⟨_, rfl⟩
     rw [← hls2, ← hos2] at hrr
     repeat with_reducible refine jR (J2 (eq_T (Int.ofNat_lt.2 g2)) (eq_T hi0)) ?_
     (with_reducible refine jI qc ?_ ?_); exact g1
     repeat with_reducible refine jR q8 ?_
     (with_reducible apply hCall); exact HO _; with_reducible refine jR trivial ?_
     repeat with_reducible refine jR trivial ?_
     (with_reducible apply hCall); exact rkeep_ok er 3 4 5 _ _ (by decide) h7 (by omega) hqc (show 0 ≤ cc by omega) (show cc ≤ (l.length : Int) by omega) hl2 ho2; with_reducible refine jR hw ?_
     repeat with_reducible refine jR hw ?_
     with_reducible refine Exists.intro ⟨i2, rs, ls2, os2, l2, o2, by rw [hi2]; exact g3, by rw [hl2, hls2, hl, encL_drop], by rw [ho2, hos2, ho, hl, encL_ap, encL_take], hrr, fun x hx => hok x (List.mem_cons_of_mem _ hx), fun x hx => hm x (List.mem_of_mem_drop (hls2 ▸ hx)), by rw [hls2, hos2, List.length_append, List.length_drop, List.length_take]; omega⟩ (And.intro (Nat.lt_succ_self _) ?_)
     with_reducible refine jR trivial ?_
     subst hi2
     and_intros <;> first | exact LeD.of rfl | exact LeD.of (by rw [hw]; rfl) | exact LeR.of rfl
   ·have HO := fun fr => aof_run (G := gE er) (k := k) (f := 111) (.inr (.inl ⟨k2, rfl⟩)) q0 fr
    rw [if_neg (by omega), if_pos k2] at hrr
    rcases ls with _ | ⟨x, lr⟩
    ·simp only at hrr
     subst hrr
     obtain ⟨rfl, rfl⟩ : c = zVd ∧ ev = .lit (er.of 13) := HR
     rw [encL] at hl
     subst hl
     repeat with_reducible refine jR (J2 (eq_T (Int.ofNat_lt.2 g2)) (eq_T hi0)) ?_
     (with_reducible refine jI qc ?_ ?_); exact g1
     repeat with_reducible refine jR q8 ?_
     (with_reducible apply hCall); exact HO _; with_reducible refine jR trivial ?_
     repeat with_reducible refine jR trivial ?_
     (with_reducible apply hCall); exact rdrop_nil er 3 4 5 _ (by decide) hqc; with_reducible refine jR (er_neq er 13) ?_
     repeat with_reducible refine jR (er_neq er 13) ?_
     with_reducible refine Exists.intro (apQ (.lit (er.of 13))) (And.intro ?_ ?_)
     ·with_reducible refine jR trivial ?_
      and_intros <;> exact LeD.of rfl
     repeat with_reducible refine jR trivial ?_
     with_reducible refine jE trivial ?_
     and_intros <;> exact LeD.of rfl
    ·simp only at hrr
     obtain ⟨yc, hyc⟩ : ∃ z, z = encV x := ⟨_, rfl⟩
     obtain ⟨ll, hll2⟩ : ∃ z, z = encL lr := ⟨_, rfl⟩
     rw [encL, ← hyc, ← hll2] at hl
     subst hl
     have h7r : ∀ x ∈ ll, x.length = 7 := fun x hx => h7 x (List.mem_cons_of_mem _ hx)
     simp only [List.length_cons] at hbb
     by_cases hc0 : cmp x sv = 0
     ·rw [if_pos hc0] at hrr
      repeat with_reducible refine jR (J2 (eq_T (Int.ofNat_lt.2 g2)) (eq_T hi0)) ?_
      (with_reducible refine jI qc ?_ ?_); exact g1
      repeat with_reducible refine jR q8 ?_
      (with_reducible apply hCall); exact HO _; with_reducible refine jR trivial ?_
      repeat with_reducible refine jR trivial ?_
      (with_reducible apply hCall); exact rdrop_ok er 3 4 5 _ (by decide) hyc h7r hqc hc0; with_reducible refine jR hw ?_
      repeat with_reducible refine jR hw ?_
      with_reducible refine Exists.intro ⟨i2, rs, lr, os, ll, o, by rw [hi2]; exact g3, hll2, ho, hrr, fun x hx => hok x (List.mem_cons_of_mem _ hx), fun x hx => hm x (List.mem_cons_of_mem _ hx), by omega⟩ (And.intro (Nat.lt_succ_self _) ?_)
      with_reducible refine jR trivial ?_
      subst hi2
      and_intros <;> first | exact LeD.of rfl | exact LeD.of (by rw [hw]; rfl) | exact LeR.of rfl
     ·rw [if_neg hc0] at hrr
      subst hrr
      obtain ⟨rfl, rfl⟩ : c = zVd ∧ ev = .lit (er.of 13) := HR
      repeat with_reducible refine jR (J2 (eq_T (Int.ofNat_lt.2 g2)) (eq_T hi0)) ?_
      (with_reducible refine jI qc ?_ ?_); exact g1
      repeat with_reducible refine jR q8 ?_
      (with_reducible apply hCall); exact HO _; with_reducible refine jR trivial ?_
      repeat with_reducible refine jR trivial ?_
      (with_reducible apply hCall); exact rdrop_bad er 3 4 5 _ (by decide) hyc h7r hqc hc0; with_reducible refine jR (er_neq er 13) ?_
      repeat with_reducible refine jR (er_neq er 13) ?_
      with_reducible refine Exists.intro (apQ (.lit (er.of 13))) (And.intro ?_ ?_)
      ·with_reducible refine jR trivial ?_
       and_intros <;> exact LeD.of rfl
      repeat with_reducible refine jR trivial ?_
      with_reducible refine jE trivial ?_
      and_intros <;> exact LeD.of rfl
   ·have HO := fun fr => aof_run (G := gE er) (k := k) (f := 112) (.inr (.inr (.inl ⟨k3, rfl⟩))) q0 fr
    rw [if_neg (by omega), if_neg (by omega), if_pos k3] at hrr
    obtain ⟨o2, ho2⟩ : ∃ z, z = o ++ [encV sv] := ⟨_, rfl⟩
    obtain ⟨os2, hos2⟩ : ∃ z, z = os ++ [sv] := ⟨_, rfl⟩
    rw [← hos2] at hrr
    repeat with_reducible refine jR (J2 (eq_T (Int.ofNat_lt.2 g2)) (eq_T hi0)) ?_
    (with_reducible refine jI qc ?_ ?_); exact g1
    repeat with_reducible refine jR q8 ?_
    (with_reducible apply hCall); exact HO _; with_reducible refine jR trivial ?_
    repeat with_reducible refine jR trivial ?_
    (with_reducible apply hCall); exact rput_ok er 3 4 5 _ _ (by decide) (l := l) (by omega) hqc ho2; with_reducible refine jR hw ?_
    repeat with_reducible refine jR hw ?_
    with_reducible refine Exists.intro ⟨i2, rs, ls, os2, l, o2, by rw [hi2]; exact g3, hl, by rw [ho2, hos2, ho, encL_ap, encL, encL], hrr, fun x hx => hok x (List.mem_cons_of_mem _ hx), hm, by rw [hos2, List.length_append, List.length_singleton]; omega⟩ (And.intro (Nat.lt_succ_self _) ?_)
    with_reducible refine jR trivial ?_
    subst hi2
    and_intros <;> first | exact LeD.of rfl | exact LeD.of (by rw [hw]; rfl) | exact LeR.of rfl
   ·have HO := fun fr => aof_run (G := gE er) (k := k) (f := 113) (.inr (.inr (.inr ⟨k4, rfl⟩))) q0 fr
    rw [if_neg (by omega), if_neg (by omega), if_neg (by omega)] at hrr
    rcases ls with _ | ⟨x, lr⟩
    ·simp only at hrr
     subst hrr
     obtain ⟨rfl, rfl⟩ : c = zVd ∧ ev = .lit (er.of 13) := HR
     rw [encL] at hl
     subst hl
     repeat with_reducible refine jR (J2 (eq_T (Int.ofNat_lt.2 g2)) (eq_T hi0)) ?_
     (with_reducible refine jI qc ?_ ?_); exact g1
     repeat with_reducible refine jR q8 ?_
     (with_reducible apply hCall); exact HO _; with_reducible refine jR trivial ?_
     repeat with_reducible refine jR trivial ?_
     (with_reducible apply hCall); exact rchange_nil er 3 4 5 _ (by decide) hqc; with_reducible refine jR (er_neq er 13) ?_
     repeat with_reducible refine jR (er_neq er 13) ?_
     with_reducible refine Exists.intro (apQ (.lit (er.of 13))) (And.intro ?_ ?_)
     ·with_reducible refine jR trivial ?_
      and_intros <;> exact LeD.of rfl
     repeat with_reducible refine jR trivial ?_
     with_reducible refine jE trivial ?_
     and_intros <;> exact LeD.of rfl
    ·simp only at hrr
     obtain ⟨yc, hyc⟩ : ∃ z, z = encV x := ⟨_, rfl⟩
     obtain ⟨ll, hll2⟩ : ∃ z, z = encL lr := ⟨_, rfl⟩
     rw [encL, ← hyc, ← hll2] at hl
     subst hl
     have h7r : ∀ x ∈ ll, x.length = 7 := fun x hx => h7 x (List.mem_cons_of_mem _ hx)
     simp only [List.length_cons] at hbb hll
     have hmx1 := hm x (List.mem_cons_self ..)
     obtain ⟨c1, ev1, h1, H1⟩ := hD k4 x hmx1.1 (by omega)
     cases hq : ado se x with
     | bad nb =>
      rw [hq] at hrr
      simp only at hrr
      subst hrr
      obtain ⟨rfl, rfl⟩ : c = zVd ∧ ev = .lit (er.of nb) := HR
      repeat with_reducible refine jR (J2 (eq_T (Int.ofNat_lt.2 g2)) (eq_T hi0)) ?_
      (with_reducible refine jI qc ?_ ?_); exact g1
      repeat with_reducible refine jR q8 ?_
      (with_reducible apply hCall); exact HO _; with_reducible refine jR trivial ?_
      repeat with_reducible refine jR trivial ?_
      (with_reducible apply hCall); exact rchange_bad er 3 4 5 _ (by decide) hyc h7r hqc h1 H1 (.inl hq); with_reducible refine jR (er_neq er nb) ?_
      repeat with_reducible refine jR (er_neq er nb) ?_
      with_reducible refine Exists.intro (apQ (.lit (er.of nb))) (And.intro ?_ ?_)
      ·with_reducible refine jR trivial ?_
       and_intros <;> exact LeD.of rfl
      repeat with_reducible refine jR trivial ?_
      with_reducible refine jE trivial ?_
      and_intros <;> exact LeD.of rfl
     | ok y =>
      rw [hq] at hrr
      simp only at hrr
      by_cases hpy : 1 ≤ y.kind ∧ y.kind ≤ 3
      ·rw [if_pos hpy] at hrr
       obtain ⟨o2, ho2⟩ : ∃ z, z = o ++ [encV y] := ⟨_, rfl⟩
       obtain ⟨os2, hos2⟩ : ∃ z, z = os ++ [y] := ⟨_, rfl⟩
       rw [← hos2] at hrr
       repeat with_reducible refine jR (J2 (eq_T (Int.ofNat_lt.2 g2)) (eq_T hi0)) ?_
       (with_reducible refine jI qc ?_ ?_); exact g1
       repeat with_reducible refine jR q8 ?_
       (with_reducible apply hCall); exact HO _; with_reducible refine jR trivial ?_
       repeat with_reducible refine jR trivial ?_
       (with_reducible apply hCall); exact rchange_ok er 3 4 5 _ _ (by decide) (by omega) hyc h7r hqc h1 H1 hq hpy ho2; with_reducible refine jR hw ?_
       repeat with_reducible refine jR hw ?_
       with_reducible refine Exists.intro ⟨i2, rs, lr, os2, ll, o2, by rw [hi2]; exact g3, hll2, by rw [ho2, hos2, ho, encL_ap, encL, encL], hrr, fun x hx => hok x (List.mem_cons_of_mem _ hx), fun x hx => hm x (List.mem_cons_of_mem _ hx), by rw [hos2, List.length_append, List.length_singleton]; omega⟩ (And.intro (Nat.lt_succ_self _) ?_)
       with_reducible refine jR trivial ?_
       subst hi2
       and_intros <;> first | exact LeD.of rfl | exact LeD.of (by rw [hw]; rfl) | exact LeR.of rfl
      ·rw [if_neg hpy] at hrr
       subst hrr
       obtain ⟨rfl, rfl⟩ : c = zVd ∧ ev = .lit (er.of 12) := HR
       repeat with_reducible refine jR (J2 (eq_T (Int.ofNat_lt.2 g2)) (eq_T hi0)) ?_
       (with_reducible refine jI qc ?_ ?_); exact g1
       repeat with_reducible refine jR q8 ?_
       (with_reducible apply hCall); exact HO _; with_reducible refine jR trivial ?_
       repeat with_reducible refine jR trivial ?_
       (with_reducible apply hCall); exact rchange_bad er 3 4 5 _ (by decide) hyc h7r hqc h1 H1 (.inr ⟨y, hq, rfl, hpy⟩); with_reducible refine jR (er_neq er 12) ?_
       repeat with_reducible refine jR (er_neq er 12) ?_
       with_reducible refine Exists.intro (apQ (.lit (er.of 12))) (And.intro ?_ ?_)
       ·with_reducible refine jR trivial ?_
        and_intros <;> exact LeD.of rfl
       repeat with_reducible refine jR trivial ?_
       with_reducible refine jE trivial ?_
       and_intros <;> exact LeD.of rfl
  have hge := drop_n (hd.trans (by rw [encES]))
  have hRy : R = .ok (ls, os) := by rw [← hrr, Val.adoS.eq_def]
  rw [hRy] at HR
  simp only at HR
  repeat with_reducible refine jR hge ?_
  with_reducible refine Exists.intro (arQ l o) (And.intro ?_ ?_)
  ·with_reducible refine jR trivial ?_
   trivial
  by_cases h0 : 0 < ls.length
  ·rw [if_pos h0] at HR
   obtain ⟨rfl, rfl⟩ := HR
   have h0l : (0 : Int) < (l.length : Int) := by omega
   repeat with_reducible refine jR (eq_T h0l) ?_
   with_reducible refine jE trivial ?_
   and_intros <;> exact LeD.of rfl
  rw [if_neg h0] at HR
  have h0l : ¬ (0 : Int) < (l.length : Int) := by omega
  obtain ⟨hc, rfl⟩ := HR
  by_cases h1 : os.length = 0
  ·have ho0 : (o.length : Int) = 0 := by omega
   have hmk : mkL os = v0 := by unfold mkL; rw [if_pos h1]
   repeat with_reducible refine jR (J2 h0l (eq_T ho0)) ?_
   with_reducible refine jE trivial ?_
   simp only [hc, hmk, v0, cV, eZ, eS]
  ·have ho0 : ¬ (o.length : Int) = 0 := by omega
   have hmk : mkL os = .mk 4 0 ByteArray.empty [] ByteArray.empty os [] := by unfold mkL; rw [if_neg h1]
   repeat with_reducible refine jR (J2 h0l ho0) ?_
   with_reducible refine jE trivial ?_
   simp only [hc, hmk, cV, eZ, eS, ← ho]
theorem ado_by (e : E) (v : V) : ado e v = if e.kind = 1 then (if cmp e.old v = 0 then .ok e.new else .bad 13) else if e.kind = 2 then intoR e v else if e.kind = 3 then rowR e v else if e.kind = 4 then bookR e v else .ok v := by
 obtain ⟨k, o, n, f, r, ro, rn, s, ks⟩ := e
 rw [ado]
 unfold intoR rowR bookR
 rfl
theorem do_run (er : Errs) (e : E) (hr : eright e = true) (HF : e.kind = 2 → ∀ y ∈ e.fields, DoE er y.2) (HS : e.kind = 3 → ∀ y ∈ e.steps, y.1 = 4 → DoE er y.2.2.2) (HK : e.kind = 4 → ∀ y ∈ e.keys, DoE er y.2) : DoE er e := fun v hv hb => by
 have hall : (e.kind = 2 → allF e.fields) ∧ (e.kind = 3 → allS e.steps) ∧ (e.kind = 4 → allK e.keys) := by
  obtain ⟨k, o, n, f, r, ro, rn, s, ks⟩ := e
  obtain ⟨_, h⟩ := Val.eright_parts hr
  refine ⟨fun (hk : k = 2) => ?_, fun (hk : k = 3) => ?_, fun (hk : k = 4) => ?_⟩ <;> rcases h with h | h | h | h | h <;> first | omega | exact h.2
 rw [ado_by]
 obtain ⟨k, hk⟩ : ∃ z, z = e.kind := ⟨_, rfl⟩
 rw [← hk] at HF HS HK hall ⊢
 by_cases k1 : k = 1
 ·rw [if_pos k1]
  obtain ⟨c, ev, HR, H⟩ := aswap_run er e v
  refine ⟨c, ev, HR, fun xc vc hx hv fr => ?_⟩
  have X0 := (cE e).1; rw [← hx, ← hk] at X0
  refine PRun.pure (xs := [.agg (cellsP 21 xc), .agg (cellsP 7 vc)]) (r1 := .tup [.agg (cellsP 7 c), .d fun _ => ev]) tI_ok (by kernel_rfl) Tryz.func76 rfl rfl (by kernel_rfl) ?_
  repeat with_reducible refine jR (J2 (cellQ X0) (eq_T k1)) ?_
  (with_reducible apply hCall); exact H xc vc hx hv _; with_reducible refine jR trivial ?_
  repeat with_reducible refine jR trivial ?_
  with_reducible refine jE trivial ?_
  trivial
 rw [if_neg k1]
 by_cases k2 : k = 2
 ·rw [if_pos k2]
  obtain ⟨c, ev, HR, H⟩ := ainto_run er e v hv hb (hall.1 k2) (HF k2)
  refine ⟨c, ev, HR, fun xc vc hx hv fr => ?_⟩
  have X0 := (cE e).1; rw [← hx, ← hk] at X0
  refine PRun.pure (xs := [.agg (cellsP 21 xc), .agg (cellsP 7 vc)]) (r1 := .tup [.agg (cellsP 7 c), .d fun _ => ev]) tI_ok (by kernel_rfl) Tryz.func76 rfl rfl (by kernel_rfl) ?_
  repeat with_reducible refine jR (J3 (cellQ X0) k1 (eq_T k2)) ?_
  (with_reducible apply hCall); exact H xc vc hx hv _; with_reducible refine jR trivial ?_
  repeat with_reducible refine jR trivial ?_
  with_reducible refine jE trivial ?_
  trivial
 rw [if_neg k2]
 by_cases k3 : k = 3
 ·rw [if_pos k3]
  obtain ⟨c, ev, HR, H⟩ := arow_run er e v hv hb (hall.2.1 k3) (HS k3)
  refine ⟨c, ev, HR, fun xc vc hx hv fr => ?_⟩
  have X0 := (cE e).1; rw [← hx, ← hk] at X0
  refine PRun.pure (xs := [.agg (cellsP 21 xc), .agg (cellsP 7 vc)]) (r1 := .tup [.agg (cellsP 7 c), .d fun _ => ev]) tI_ok (by kernel_rfl) Tryz.func76 rfl rfl (by kernel_rfl) ?_
  repeat with_reducible refine jR (J4 (cellQ X0) k1 k2 (eq_T k3)) ?_
  (with_reducible apply hCall); exact H xc vc hx hv _; with_reducible refine jR trivial ?_
  repeat with_reducible refine jR trivial ?_
  with_reducible refine jE trivial ?_
  trivial
 rw [if_neg k3]
 by_cases k4 : k = 4
 ·rw [if_pos k4]
  obtain ⟨c, ev, HR, H⟩ := abook_run er e v hv hb (hall.2.2 k4) (HK k4)
  refine ⟨c, ev, HR, fun xc vc hx hv fr => ?_⟩
  have X0 := (cE e).1; rw [← hx, ← hk] at X0
  refine PRun.pure (xs := [.agg (cellsP 21 xc), .agg (cellsP 7 vc)]) (r1 := .tup [.agg (cellsP 7 c), .d fun _ => ev]) tI_ok (by kernel_rfl) Tryz.func76 rfl rfl (by kernel_rfl) ?_
  repeat with_reducible refine jR (J5 (cellQ X0) k1 k2 k3 (eq_T k4)) ?_
  (with_reducible apply hCall); exact H xc vc hx hv _; with_reducible refine jR trivial ?_
  repeat with_reducible refine jR trivial ?_
  with_reducible refine jE trivial ?_
  trivial
 rw [if_neg k4]
 refine ⟨_, _, ⟨rfl, rfl⟩, fun xc vc hx hv fr => ?_⟩
 have X0 := (cE e).1; rw [← hx, ← hk] at X0
 rw [← hv]
 refine PRun.pure (xs := [.agg (cellsP 21 xc), .agg (cellsP 7 vc)]) (r1 := .tup [.agg (cellsP 7 vc), .d fun _ => .lit .nilIface]) tI_ok (by kernel_rfl) Tryz.func76 rfl rfl (by kernel_rfl) ?_
 repeat with_reducible refine jR (J5 (cellQ X0) k1 k2 k3 k4) ?_
 with_reducible refine jE trivial ?_
 trivial
mutual
theorem do_all (er : Errs) : ∀ e : E, eright e = true → DoE er e
 | .mk k o n f r ro rn s ks, hr => do_run er (.mk k o n f r ro rn s ks) hr (fun (hk : k = 2) => do_allF er f (by
   obtain ⟨_, h⟩ := Val.eright_parts hr
   rcases h with h | h | h | h | h <;> first | omega | exact fun e he => (h.2 e he).2)) (fun (hk : k = 3) => do_allS er s (by
   obtain ⟨_, h⟩ := Val.eright_parts hr
   rcases h with h | h | h | h | h <;> first | omega | exact fun e he h4 => by rcases h.2 e he with h | h | h | h <;> first | omega | exact h.2)) (fun (hk : k = 4) => do_allK er ks (by
   obtain ⟨_, h⟩ := Val.eright_parts hr
   rcases h with h | h | h | h | h <;> first | omega | exact fun e he => (h.2 e he).2))
theorem do_allF (er : Errs) : ∀ f : List (Int × E), (∀ e ∈ f, eright e.2 = true) → ∀ x ∈ f, DoE er x.2
 | [], _, x, hx => absurd hx (by simp)
 | (n, y) :: r, hr, x, hx => by
  rcases List.mem_cons.1 hx with hx | hx
  ·rw [hx]; exact do_all er y (hr _ (List.mem_cons_self ..))
  ·exact do_allF er r (fun e he => hr e (List.mem_cons_of_mem _ he)) x hx
theorem do_allS (er : Errs) : ∀ f : List Stp, (∀ e ∈ f, e.1 = 4 → eright e.2.2.2 = true) → ∀ x ∈ f, x.1 = 4 → DoE er x.2.2.2
 | [], _, x, hx => absurd hx (by simp)
 | (k, c, v, y) :: r, hr, x, hx => by
  rcases List.mem_cons.1 hx with hx | hx
  ·rw [hx]; exact fun h4 => do_all er y (hr _ (List.mem_cons_self ..) h4)
  ·exact do_allS er r (fun e he => hr e (List.mem_cons_of_mem _ he)) x hx
theorem do_allK (er : Errs) : ∀ f : List (V × E), (∀ e ∈ f, eright e.2 = true) → ∀ x ∈ f, DoE er x.2
 | [], _, x, hx => absurd hx (by simp)
 | (n, y) :: r, hr, x, hx => by
  rcases List.mem_cons.1 hx with hx | hx
  ·rw [hx]; exact do_all er y (hr _ (List.mem_cons_self ..))
  ·exact do_allK er r (fun e he => hr e (List.mem_cons_of_mem _ he)) x hx
end
theorem value_run (er : Errs) {x : E} {v : V} {xc vc : List DV} (hx : xc = encE x) (hv : vc = encV v) (hm : esm x) (hb : vmx v + esz x ≤ 90000) :
  ∃ c ev, EVr er (avalue x v) c ev ∧ ∀ fr, PRun Tryz.prog (gE er) 62 [.agg (cellsP 21 xc), .agg (cellsP 7 vc)] [] fr (.tup [.agg (cellsP 7 c), .d fun _ => ev]) [] := by
 have HE := fun fr => eright_run (G := gE er) hx hm fr
 have HV := fun fr => right_run (G := gE er) hv fr
 unfold avalue
 by_cases h1 : eright x = true
 ·rw [h1] at HE
  by_cases h2 : right v = true
  ·rw [h2] at HV
   rw [if_pos ⟨h1, h2⟩]
   obtain ⟨c, ev, HR, H⟩ := do_all er x h1 v h2 hb
   refine ⟨c, ev, HR, fun fr => ?_⟩
   refine PRun.pure (xs := [.agg (cellsP 21 xc), .agg (cellsP 7 vc)]) (r1 := .tup [.agg (cellsP 7 c), .d fun _ => ev]) tI_ok (by kernel_rfl) Tryz.func62 rfl rfl (by kernel_rfl) ?_
   repeat with_reducible refine jR trivial ?_
   (with_reducible apply hCall); exact HE _; with_reducible refine jR trivial ?_
   repeat with_reducible refine jR trivial ?_
   (with_reducible apply hCall); exact HV _; with_reducible refine jR trivial ?_
   repeat with_reducible refine jR trivial ?_
   (with_reducible apply hCall); exact H xc vc hx hv _; with_reducible refine jR trivial ?_
   repeat with_reducible refine jR trivial ?_
   with_reducible refine jE trivial ?_
   trivial
  ·rw [if_neg (fun h => h2 h.2)]
   rw [show right v = false by simpa using h2] at HV
   refine ⟨_, _, ⟨rfl, rfl⟩, fun fr => ?_⟩
   refine PRun.pure (xs := [.agg (cellsP 21 xc), .agg (cellsP 7 vc)]) (r1 := .tup [.agg (cellsP 7 zVd), .d fun _ => .lit (er.of 9)]) tI_ok (by kernel_rfl) Tryz.func62 rfl rfl (by kernel_rfl) ?_
   repeat with_reducible refine jR trivial ?_
   (with_reducible apply hCall); exact HE _; with_reducible refine jR trivial ?_
   repeat with_reducible refine jR trivial ?_
   (with_reducible apply hCall); exact HV _; with_reducible refine jR trivial ?_
   repeat with_reducible refine jR trivial ?_
   with_reducible refine jE trivial ?_
   and_intros <;> exact LeD.of rfl
 ·rw [if_neg (fun h => h1 h.1)]
  rw [show eright x = false by simpa using h1] at HE
  refine ⟨_, _, ⟨rfl, rfl⟩, fun fr => ?_⟩
  refine PRun.pure (xs := [.agg (cellsP 21 xc), .agg (cellsP 7 vc)]) (r1 := .tup [.agg (cellsP 7 zVd), .d fun _ => .lit (er.of 9)]) tI_ok (by kernel_rfl) Tryz.func62 rfl rfl (by kernel_rfl) ?_
  repeat with_reducible refine jR trivial ?_
  (with_reducible apply hCall); exact HE _; with_reducible refine jR trivial ?_
  repeat with_reducible refine jR trivial ?_
  with_reducible refine jE trivial ?_
  and_intros <;> exact LeD.of rfl
end Go.Proofs.YtlmbcoecipbblaaGreatDoor
