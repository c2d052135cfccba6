/- redlineref13.single, Right, walked. -/
import Derived.Test.YtebekgdjknenlaaGreatDoorGpAR
set_option maxRecDepth 100000
set_option maxHeartbeats 16000000
set_option linter.unusedVariables false
set_option linter.unusedSimpArgs false
namespace Go.Proofs.YtebekgdjknenlaaGreatDoor
open Go.RowKit
open Val (V v0 right rightF rightL rightP partB lastF lastP cmp)
namespace Val
def rb (k n : Int) (t nf r nl np : Nat) : Bool :=
 if k ≠ 1 ∧ n ≠ 0 then true else if k ≠ 2 ∧ 0 < t then true else if k ≠ 3 ∧ 0 < nf + r then true else if decide (k = 4) ≠ decide (0 < nl) then true else decide (k = 5) != decide (0 < np)
theorem rb_false {k n : Int} {t nf r nl np : Nat} (h : rb k n t nf r nl np = false) : (k = 1 ∨ n = 0) ∧ (k = 2 ∨ t = 0) ∧ (k = 3 ∨ (nf = 0 ∧ r = 0)) ∧ (k = 4 ↔ 0 < nl) ∧ (k = 5 ↔ 0 < np) := by
 unfold rb at h
 split at h
 ·cases h
 ·split at h
  ·cases h
  ·split at h
   ·cases h
   ·split at h
    ·cases h
    ·rename_i h1 h2 h3 h4
     refine ⟨by omega, by omega, by omega, ?_, ?_⟩
     ·simpa using h4
     ·simpa using h
theorem right_ref (k n : Int) (t : ByteArray) (f : List (Int × V)) (r : ByteArray) (l : List V) (ps : List (V × V)) :
  right (.mk k n t f r l ps) = (decide (0 ≤ k ∧ k ≤ 5) && (!rb k n t.size f.length r.size l.length ps.length && (rightF 0 f && (rightL l && rightP none ps)))) := by
 rw [right]
 have e1 : rightF 0 [] = true := by rw [rightF]
 have e2 : rightL [] = true := by rw [rightL]
 have e3 : rightP none [] = true := by rw [rightP.eq_def]
 cases hb : rb k n t.size f.length r.size l.length ps.length with
 | false =>
  obtain ⟨h1, h2, h3, h4, h5⟩ := rb_false hb
  have nilF : ¬ k = 3 → f = [] := fun h => List.eq_nil_of_length_eq_zero (by omega)
  have nilL : ¬ k = 4 → l = [] := fun h => List.eq_nil_of_length_eq_zero (by omega)
  have nilP : ¬ k = 5 → ps = [] := fun h => List.eq_nil_of_length_eq_zero (by omega)
  have hbv : bareV k n t f.length r l.length ps.length = true := by
   unfold bareV; rw [decide_eq_true_eq]
   refine ⟨h1, h2, ?_, ?_, ?_, ?_⟩ <;> omega
  rw [hbv, Bool.true_and, Bool.not_false, Bool.true_and]
  by_cases k3 : k = 3
  ·subst k3; rw [nilL (by decide), nilP (by decide), e2, e3]; simp
  ·rw [nilF k3, e1]
   by_cases k4 : k = 4
   ·subst k4; rw [nilP (by decide), e3, decide_eq_true (h4.1 rfl)]; simp
   ·rw [nilL k4, e2]
    by_cases k5 : k = 5
    ·subst k5; rw [decide_eq_true (h5.1 rfl)]; simp
    ·rw [nilP k5, e3]
     simp only [k3, k4, k5, if_false, Bool.and_true]
     by_cases h : k = 0 ∨ k = 1 ∨ k = 2
     ·rw [if_pos h]; symm; rw [decide_eq_true_eq]; omega
     ·rw [if_neg h]; symm; rw [decide_eq_false_iff_not]; omega
 | true =>
  rw [Bool.not_true, Bool.false_and, Bool.and_false]
  by_cases hbv : bareV k n t f.length r l.length ps.length = true
  ·rw [hbv, Bool.true_and]
   unfold bareV at hbv
   rw [decide_eq_true_eq] at hbv
   obtain ⟨h1, h2, h3, h4, h5, h6⟩ := hbv
   have hor : (k = 4 ∧ l.length = 0) ∨ (k = 5 ∧ ps.length = 0) := by
    unfold rb at hb
    rw [if_neg (by omega), if_neg (by omega), if_neg (by omega)] at hb
    split at hb
    ·rename_i h
     by_cases k4 : k = 4
     ·left; refine ⟨k4, ?_⟩
      by_cases hl : 0 < l.length
      ·exact absurd (by rw [decide_eq_true k4, decide_eq_true hl]) h
      ·omega
     ·exact absurd (by rw [decide_eq_false k4, decide_eq_false (by omega)]) h
    ·by_cases k5 : k = 5
     ·right; refine ⟨k5, ?_⟩
      by_cases hl : 0 < ps.length
      ·rw [decide_eq_true k5, decide_eq_true hl] at hb; cases hb
      ·omega
     ·rw [decide_eq_false k5, decide_eq_false (by omega)] at hb; cases hb
   rcases hor with ⟨rfl, h⟩ | ⟨rfl, h⟩
   ·simp [h]
   ·simp [h]
  ·simp only [Bool.not_eq_true] at hbv
   rw [hbv, Bool.false_and]
def prevB (m : Option V) (k : V) : Bool := match m with
 | none => true
 | some p => decide (p.kind = k.kind) && decide (cmp p k < 0)
theorem prevB_none (k : V) : prevB none k = true := rfl
theorem prevB_some (p k : V) : prevB (some p) k = (decide (p.kind = k.kind) && decide (cmp p k < 0)) := rfl
theorem rightP_next {ps : List (V × V)} {k : Nat} {m : Option V} (h : k < ps.length) : rightP m (ps.drop k) = (decide (ps[k].1.kind = 1 ∨ ps[k].1.kind = 2) && right ps[k].1 && partB ps[k].2 && prevB m ps[k].1 && rightP (some ps[k].1) (ps.drop (k + 1))) := by
 rw [rightP_drop h]
 cases m <;> rfl
theorem rightL_drop {l : List V} {k : Nat} (h : k < l.length) : rightL (l.drop k) = (partB l[k] && rightL (l.drop (k + 1))) := by
 rw [List.drop_eq_getElem_cons h, rightL]; rfl
mutual
def vsm : V → Prop
 | .mk k n t f r l ps => r.size ≤ 1000 ∧ f.length ≤ 90000 ∧ vsmF f ∧ vsmL l ∧ vsmP ps
def vsmF : List (Int × V) → Prop
 | [] => True
 | (n, v) :: r => vsm v ∧ vsmF r
def vsmL : List V → Prop
 | [] => True
 | v :: r => vsm v ∧ vsmL r
def vsmP : List (V × V) → Prop
 | [] => True
 | (k, v) :: r => (vsm k ∧ vsm v) ∧ vsmP r
end
theorem vsmF_at : ∀ {l : List (Int × V)}, vsmF l → ∀ e ∈ l, vsm e.2
 | (n, x) :: r, h, e, he => by
  rw [vsmF] at h
  rcases List.mem_cons.1 he with rfl | he
  ·exact h.1
  ·exact vsmF_at h.2 e he
theorem vsmL_at : ∀ {l : List V}, vsmL l → ∀ e ∈ l, vsm e
 | x :: r, h, e, he => by
  rw [vsmL] at h
  rcases List.mem_cons.1 he with rfl | he
  ·exact h.1
  ·exact vsmL_at h.2 e he
theorem vsmP_at : ∀ {l : List (V × V)}, vsmP l → ∀ e ∈ l, vsm e.1 ∧ vsm e.2
 | (k, x) :: r, h, e, he => by
  rw [vsmP] at h
  rcases List.mem_cons.1 he with rfl | he
  ·exact h.1
  ·exact vsmP_at h.2 e he
end Val
section
variable {P : Program} {ops : Array Oper} {w : World} {Q : Act → Prop} {o : Oper} {rest : List Oper} {a : Act}
theorem wpStill_of_quiet : ∀ {l : List Oper} {a : Act}, wpQuiet P ops (fun w' => w' = w) Q l a → wpStill P ops w Q l a
 | [], a, h => h
 | o :: rest, a, h => by
  unfold wpQuiet at h
  unfold wpStill
  split
  ·rename_i hw
   rw [if_pos hw] at h
   obtain ⟨v, h1, h2⟩ := h
   have h1 := h1 w rfl
   have h2 := wpStill_of_quiet h2
   unfold Oper.quietAt Oper.quietUpon at h1
   unfold Oper.still Oper.stillUpon
   split at h1
   ·rename_i e; rw [e]; obtain ⟨h3, h4⟩ := h1; subst h4; exact ⟨h3, h2⟩
   ·rename_i e; rw [e]; obtain ⟨h3, h4⟩ := h1; subst h4; exact ⟨h3, h2⟩
   ·rename_i e; rw [e]; obtain ⟨h3, h4⟩ := h1; exact ⟨h3, v, h4, h2⟩
   ·cases h1
  ·rename_i hw
   rw [if_neg hw] at h
   exact wpStill_of_quiet h
theorem wpQuiet_load_seg (hgd : Region.wanted o (yielded ops a.tmps) = true) (ty : TypeId) (x : Operand) (ho : o.op = .load ty x)
  (b off : Nat) (hx : a.eval x = .pointer (some ⟨b, off, none⟩)) (cs : List Value) (d : TypeDesc) (hc : w.rangeAt b off cs)
  (hu : P.underlying ty = some d) (hd : d.isRow = true) (hi : (P.info? ty).map (·.size) = some cs.length)
  (h : wpQuiet P ops (fun w' => w' = w) Q rest (a.put o.dst (.agg cs.toArray))) : wpQuiet P ops (fun w' => w' = w) Q (o :: rest) a := by
 unfold wpQuiet
 rw [if_pos hgd]
 refine ⟨.agg cs.toArray, fun w' hw => ?_, h⟩
 subst hw
 unfold Oper.quietAt execOp
 simp only [ho, hx, Instr.loadAt, Instr.sureAddr, Sem.run_bind, Sem.run_pure, Result.andThen_ok, run_loadVar_mid w' b off ty cs d hc hu hd hi]
 exact ⟨rfl, rfl⟩
end
def RRightAt (N : Nat) : Prop := ∀ (x : V) (xc : List Value) (w : World), SizeOf.sizeOf x < N → Val.vsm x → VR (frag w) x xc →
 Calls Tryz.prog 21 #[.agg xc.toArray] w fun e w' => e = .returned (.bool (right x)) ∧ Below w.heap.size w w'
theorem rsingle_at (N : Nat) (ih : RRightAt N) (x : V) (xc : List Value) (w : World) (hs : SizeOf.sizeOf x < N) (hm : Val.vsm x) (hx : VR (frag w) x xc) :
  Calls Tryz.prog 45 #[.agg xc.toArray] w fun e w' => e = .returned (.bool (partB x)) ∧ Below w.heap.size w w' := by
 have HR := Yq (fun (w0 : World) (hb : Below w.heap.size w w0) => ih x xc w0 hs hm (hx.mono (below_le hb)))
 have HK0 := Yq hx.k0; have HLx := Yq hx.len
 have hpb : partB x = (decide (1 ≤ x.kind ∧ x.kind ≤ 3) && right x) := rfl
 rw [hpb]
 generalize right x = rx at *
 generalize x.kind = kd at *
 clear hpb hx
 go_enter Tryz.func45, Tryz.ntmps45
 have HO := Own.nil w
 go_upto_region 1 with (first
 | ((with_reducible refine atOp (.box 40 _) ?_); refine wpList_box_own rfl 40 _ rfl xc rfl HO ?_; clear HO; intro w1 g1 HO)
 | fail)
 have q0 := (HO.at 0 rfl).cell HK0.out
 have hv := (HO.at 0 rfl).whole
 by_cases h1 : kd = 1
 ·subst h1
  go_wp2_with (first
  | ((with_reducible refine atOp (.load 40 _) ?_); refine wpList_load_seg rfl 40 _ rfl _ _ rfl _ _ hv Tryz.underlying40 rfl (iC infoRV HLx) ?_)
  | (go_at_call 21; (with_reducible refine (HR.out _ HO.below).mono ?_); rintro e w7 ⟨rfl, hbc⟩)
  | fail)
  go_ret
  exact ⟨ret_bool (by simp), (HO.call hbc).below⟩
 ·skip
  by_cases h2 : kd = 2
  ·subst h2
   go_wp2_with (first
   | ((with_reducible refine atOp (.load 40 _) ?_); refine wpList_load_seg rfl 40 _ rfl _ _ rfl _ _ hv Tryz.underlying40 rfl (iC infoRV HLx) ?_)
   | (go_at_call 21; (with_reducible refine (HR.out _ HO.below).mono ?_); rintro e w7 ⟨rfl, hbc⟩)
   | fail)
   go_ret
   exact ⟨ret_bool (by simp), (HO.call hbc).below⟩
  ·skip
   by_cases h3 : kd = 3
   ·subst h3
    go_wp2_with (first
    | ((with_reducible refine atOp (.load 40 _) ?_); refine wpList_load_seg rfl 40 _ rfl _ _ rfl _ _ hv Tryz.underlying40 rfl (iC infoRV HLx) ?_)
    | (go_at_call 21; (with_reducible refine (HR.out _ HO.below).mono ?_); rintro e w7 ⟨rfl, hbc⟩)
    | fail)
    go_ret
    exact ⟨ret_bool (by simp), (HO.call hbc).below⟩
   ·skip
    have e1 : (kd == 1) = false := by simpa using h1
    have f1 : decide (kd = 1) = false := by simpa using h1
    have e2 : (kd == 2) = false := by simpa using h2
    have f2 : decide (kd = 2) = false := by simpa using h2
    have e3 : (kd == 3) = false := by simpa using h3
    have f3 : decide (kd = 3) = false := by simpa using h3
    go_wp2_with fail
    go_ret
    exact ⟨ret_bool (by rw [decide_eq_false (by omega), Bool.false_and]), HO.below⟩
theorem rright_succ (N : Nat) (ih : RRightAt N) : RRightAt (N + 1) := by
 intro x xc w hsz hvs hx
 obtain ⟨kd, n, t, f, r, l, ps⟩ := x
 have HS1 : Hid (∀ e ∈ f, SizeOf.sizeOf e.2 < N) := fun e h => by have := Val.size_field (x := .mk kd n t f r l ps) (m := e.1) (v := e.2) h; omega
 have HS2 : Hid (∀ e ∈ l, SizeOf.sizeOf e < N) := fun e h => by have := Val.size_list (x := .mk kd n t f r l ps) (v := e) h; omega
 have HS3 : Hid (∀ e ∈ ps, SizeOf.sizeOf e.1 < N ∧ SizeOf.sizeOf e.2 < N) := fun e h => by have := Val.size_pair (x := .mk kd n t f r l ps) (k := e.1) (v := e.2) h; omega
 rw [Val.vsm] at hvs
 have HV1 := Yq (Val.vsmF_at hvs.2.2.1); have HV2 := Yq (Val.vsmL_at hvs.2.2.2.1); have HV3 := Yq (Val.vsmP_at hvs.2.2.2.2)
 obtain ⟨RES, hRES⟩ : ∃ R, R = right (.mk kd n t f r l ps) := ⟨_, rfl⟩
 rw [← hRES]
 rw [Val.right_ref] at hRES
 rw [VR] at hx
 obtain ⟨fv0, lv0, pv0, fe, le, pe, hxc, h2, ⟨h3, h4, h5⟩, h6, h7, h8⟩ := hx
 obtain ⟨a1, c1, e1, b1, b2, b3⟩ := h3.len
 obtain ⟨a2, c2, e2, d1, d2, d3⟩ := h4.len
 obtain ⟨a3, c3, e3, p1, p2, p3⟩ := h5.len
 subst e1 e2 e3
 have HX1 : Hid (FlatC 8 (frag w) (.slice a1 fe.length c1) fe ∧ FsR (frag w) f fe) := ⟨h3, h6⟩
 have HX2 : Hid (FlatC 7 (frag w) (.slice a2 le.length c2) le ∧ LsR (frag w) l le) := ⟨h4, h7⟩
 have HX3 : Hid (FlatC 14 (frag w) (.slice a3 pe.length c3) pe ∧ PsR (frag w) ps pe) := ⟨h5, h8⟩
 have Hm1 := Yq h6.len; have Hm2 := Yq h7.len; have Hm3 := Yq h8.len
 have HC1 := Yq (fun (w2 : World) (g : Nat) (hB : Blk w2 g xc) => (show w2.cell? ⟨g, 0, none⟩ = some (.int .i64 kd) ∧ w2.cell? ⟨g, 1, none⟩ = some (.int .u64 n) ∧ w2.cell? ⟨g, 2, none⟩ = some (.string t) ∧ w2.cell? ⟨g, 3, none⟩ = some (.slice a1 fe.length c1) ∧ w2.cell? ⟨g, 4, none⟩ = some (.string r) ∧ w2.cell? ⟨g, 5, none⟩ = some (.slice a2 le.length c2) ∧ w2.cell? ⟨g, 6, none⟩ = some (.slice a3 pe.length c3) by
  subst hxc; exact ⟨hB.cell rfl, hB.cell rfl, hB.cell rfl, hB.cell rfl, hB.cell rfl, hB.cell rfl, hB.cell rfl⟩))
 obtain ⟨ns1, hn1⟩ : ∃ z, z = fe.length := ⟨_, rfl⟩
 obtain ⟨ns2, hn2⟩ : ∃ z, z = le.length := ⟨_, rfl⟩
 obtain ⟨ns3, hn3⟩ : ∃ z, z = pe.length := ⟨_, rfl⟩
 rw [← Hm1.out, ← Hm2.out, ← Hm3.out, ← hn1, ← hn2, ← hn3] at hRES
 rw [← hn1, ← hn2, ← hn3] at HC1
 rw [← hn1] at HX1; rw [← hn2] at HX2; rw [← hn3] at HX3
 have Hn1 := Yq hn1.symm; have Hn2 := Yq hn2.symm; have Hn3 := Yq hn3.symm
 have hns1 : ns1 ≤ 90000 := by have := hvs.2.1; have := Hm1.out; have := Hn1.out; omega
 have hns2 : ns2 ≤ 9223372036854775807 := by unfold maxLen at d2; omega
 have hns3 : ns3 ≤ 9223372036854775807 := by unfold maxLen at p2; omega
 have hrs : r.size ≤ 1000 := hvs.1
 have hts : t.size ≤ 9223372036854775807 := by have := h2.1; unfold maxLen at this; omega
 have hsum : IntKind.i64.wrap ((ns1 : Int) + (r.size : Int)) = (ns1 : Int) + (r.size : Int) := IntWalk.i64_in _ (by omega)
 have HRES := Yq hRES
 clear hxc h2 h3 h4 h5 h6 h7 h8 b1 b2 b3 d1 d2 d3 p1 p2 p3 hn1 hn2 hn3 hsz hRES hvs
 go_enter Tryz.func21, Tryz.ntmps21
 have HO := Own.nil w
 go_upto_region 1 with (first
 | ((with_reducible refine atOp (.box 40 _) ?_); refine wpList_box_own rfl 40 _ rfl xc rfl HO ?_; clear HO; intro w1 g1 HO)
 | fail)
 obtain ⟨q0, q1, q2, q3, q4, q5, q6⟩ := HC1.out _ _ (HO.at 0 rfl)
 by_cases hrg : ¬ (0 ≤ kd ∧ kd ≤ 5)
 ·have hR : RES = false := by rw [HRES.out, decide_eq_false hrg, Bool.false_and]
  by_cases h0 : kd < 0
  ·have d0 : decide (kd < 0) = true := decide_eq_true h0
   go_wp2_with fail
   go_ret
   exact ⟨ret_bool (by first | rfl | exact hR.symm), HO.below⟩
  ·have d0 : decide (kd < 0) = false := decide_eq_false h0
   have d5 : decide (5 < kd) = true := decide_eq_true (by omega)
   go_wp2_with fail
   go_ret
   exact ⟨ret_bool (by first | rfl | exact hR.symm), HO.below⟩
 have Hrg : Hid (0 ≤ kd ∧ kd ≤ 5) := Yq (by simpa using hrg)
 clear hrg
 have z0 : decide (kd < 0) = false := decide_eq_false (by have := Hrg.out; omega)
 have z5 : decide (5 < kd) = false := decide_eq_false (by have := Hrg.out; omega)
 go_upto_region 3 with fail
 clear z0 z5
 go_simp
 go_cut [70] from 17 to 70 (fun s70 wx => s70 = .bool (Val.rb kd n t.size ns1 r.size ns2 ns3) ∧ wx = w1)
 case first =>
  rcases (show kd = 0 ∨ kd = 1 ∨ kd = 2 ∨ kd = 3 ∨ kd = 4 ∨ kd = 5 by have := Hrg.out; omega) with e | e | e | e | e | e
  ·subst e
   go_wp2_with fail
   all_goals
    go_meet
    refine ⟨congrArg Value.bool ?_, rfl⟩
    unfold Val.rb
    first | (simp_all; done) | (have e : 0 < ns1 + r.size := (by omega); simp_all; done) | (have e : ¬ 0 < ns1 + r.size := (by omega); simp_all; done)
  ·subst e
   go_wp2_with fail
   all_goals
    go_meet
    refine ⟨congrArg Value.bool ?_, rfl⟩
    unfold Val.rb
    first | (simp_all; done) | (have e : 0 < ns1 + r.size := (by omega); simp_all; done) | (have e : ¬ 0 < ns1 + r.size := (by omega); simp_all; done)
  ·subst e
   go_wp2_with fail
   all_goals
    go_meet
    refine ⟨congrArg Value.bool ?_, rfl⟩
    unfold Val.rb
    first | (simp_all; done) | (have e : 0 < ns1 + r.size := (by omega); simp_all; done) | (have e : ¬ 0 < ns1 + r.size := (by omega); simp_all; done)
  ·subst e
   go_wp2_with fail
   all_goals
    go_meet
    refine ⟨congrArg Value.bool ?_, rfl⟩
    unfold Val.rb
    first | (simp_all; done) | (have e : 0 < ns1 + r.size := (by omega); simp_all; done) | (have e : ¬ 0 < ns1 + r.size := (by omega); simp_all; done)
  ·subst e
   go_wp2_with fail
   all_goals
    go_meet
    refine ⟨congrArg Value.bool ?_, rfl⟩
    unfold Val.rb
    first | (simp_all; done) | (have e : 0 < ns1 + r.size := (by omega); simp_all; done) | (have e : ¬ 0 < ns1 + r.size := (by omega); simp_all; done)
  ·subst e
   go_wp2_with fail
   all_goals
    go_meet
    refine ⟨congrArg Value.bool ?_, rfl⟩
    unfold Val.rb
    first | (simp_all; done) | (have e : 0 < ns1 + r.size := (by omega); simp_all; done) | (have e : ¬ 0 < ns1 + r.size := (by omega); simp_all; done)
 obtain ⟨rfl, rfl⟩ := hcut
 clear hsum
 cases hb : Val.rb kd n t.size ns1 r.size ns2 ns3 with
 | true =>
  have hR : RES = false := by rw [HRES.out, hb]; simp
  go_wp2_with fail
  go_ret
  exact ⟨ret_bool (by first | rfl | exact hR.symm), HO.below⟩
 | false =>
  have HRF : Hid (RES = (rightF 0 f && (rightL l && rightP none ps))) := Yq (by rw [HRES.out, hb, decide_eq_true Hrg.out]; simp)
  have HO1 := Yq HO
  clear HRES hb HO
  go_wp2_with fail
  clear q0 q1 q2 q3 q4 q5 q6
  go_simp
  go_loopw [74] (fun i wr => ∃ (k : Nat), k ≤ ns1 ∧ i = .int .i64 k ∧ Hid (rightF 0 f = rightF (lastF f k) (f.drop k)) ∧ Hid (0 ≤ lastF f k) ∧ Hid (Own w [(g1, xc)] wr)) (fun i _ => ns1 - (intOf i).toNat)
  case atStart => exact ⟨0, Nat.zero_le _, rfl, Yq rfl, Yq (Int.le_refl _), HO1⟩
  case round =>
   obtain ⟨k, hkn, rfl, HI, Hl0, HO⟩ := hrel
   replace HO := HO.out
   by_cases hlt : k < ns1
   ·have hks : k < fe.length := by rw [Hn1.out]; exact hlt
    have hkf : k < f.length := by rw [← Hm1.out, Hn1.out]; exact hlt
    obtain ⟨b0, o0, hb0, hidx, hcell⟩ := FlatC.at (n := ns1) (cap := c1) (a := a1) HX1.out.1 (by decide) (i := k) hks Tryz.underlying36 sizeRF
    have hr : wr.rangeAt b0 o0 fe[k] := range_below hcell HO.below hb0
    obtain ⟨exc, hx, rx⟩ := HX1.out.2.at hkf hks
    rw [hx] at hr
    have HL8 : Hid ((Value.int .i64 f[k].1 :: exc).length = 8) := by show _ = _; rw [List.length_cons, rx.len]
    have H1 : Hid (∀ u ∈ Value.int .i64 f[k].1 :: exc, u.oneCell' = true) := fun u hu => by
     rcases List.mem_cons.1 hu with rfl | hu
     ·rfl
     ·exact rx.ones u hu
    have HK1 : Hid ((Value.int .i64 f[k].1 :: exc)[1]? = some (.int .i64 f[k].2.kind)) := Yq (by simpa using rx.k0)
    have HLe := Yq rx.len
    have HR := Yq (fun (w0 : World) (hb : Below w.heap.size w w0) => ih f[k].2 exc w0 (HS1.out _ (List.getElem_mem hkf)) (HV1.out _ (List.getElem_mem hkf)) (rx.mono (below_le hb)))
    have hnx := Val.rightF_drop (m := lastF f k) hkf
    have HLs := Yq (Val.lastF_succ hkf)
    have HPv : Hid (∀ (j : Nat), k = j + 1 → ∃ b1 o1, b1 < w.heap.size ∧ (∀ w', (Instr.indexAt 36 (.slice a1 ns1 c1) (.int .i64 ((k : Int) - 1))).run Tryz.prog w' = .ok (.pointer (some ⟨b1, o1, none⟩)) w') ∧ w.cell? ⟨b1, o1, none⟩ = some (.int .i64 (lastF f k))) := fun j hj => by
     subst hj
     have hjs : j < fe.length := by omega
     have hjf : j < f.length := by omega
     obtain ⟨b1, o1, hb1, hi1, hc1⟩ := FlatC.at (n := ns1) (cap := c1) (a := a1) HX1.out.1 (by decide) (i := j) hjs Tryz.underlying36 sizeRF
     obtain ⟨zc, hz, rz⟩ := HX1.out.2.at hjf hjs
     refine ⟨b1, o1, hb1, ?_, ?_⟩
     ·rw [show (((j + 1 : Nat)) : Int) - 1 = (j : Int) by omega]; exact hi1
     ·rw [Val.lastF_succ hjf]; exact hc1 0 _ (by rw [hz]; rfl)
    clear hcell hx rx
    generalize right f[k].2 = re at *
    generalize f[k].2.kind = ek at *
    generalize f[k].1 = num at *
    generalize f[k].2 = ex at *
    have Hl00 : Hid (k = 0 → lastF f k = 0) := Yq (fun h => by rw [h]; rfl)
    generalize hla : lastF f k = la at *
    rw [hnx] at HI
    clear hnx hks hkf hla
    go_upto_region 8 with (first
   | ((with_reducible refine atOp (.load 63 _) ?_); refine wpList_load_seg rfl 63 _ rfl _ _ rfl _ _ hr Tryz.underlying63 rfl (iC infoRF HL8) ?_)
   | ((with_reducible refine atOp (.alloc 63) ?_); refine wpList_alloc_own rfl 63 rfl (.int .i64 0 :: zV) zeroRF HO ?_; clear HO; intro w6 g4 HO)
   | ((with_reducible refine atOp (.store 63 _ _) ?_); refine wpList_store_own 0 rfl 63 _ _ rfl _ 0 (Value.int .i64 num :: exc) rfl rfl HO rfl (iC infoRF HL8) (by rw [HL8.out]; decide) H1.out (patch_whole' _ _ (by rw [HL8.out]; rfl)) ?_; clear HO hr hidx; intro w5 HO)
   | fail)
    go_simp
    have n0 : w5.cell? ⟨g4, 0, none⟩ = some (.int .i64 num) := (HO.at 0 rfl).cell rfl
    have n1 : w5.cell? ⟨g4, 1, none⟩ = some (.int .i64 ek) := (HO.at 0 rfl).cell HK1.out
    obtain ⟨_, _, _, q3, _, _, _⟩ := HC1.out _ _ (HO.at 1 rfl)
    have Hfl : Hid (rightF 0 f = false → RES = false) := Yq (fun h => by rw [HRF.out, h, Bool.false_and])
    have hb5 := HO.below
    by_cases h1 : num < 1
    ·have d1 : decide (num < 1) = true := decide_eq_true h1
     have hR : Hid (RES = false) := Yq (Hfl.out (by rw [HI.out, decide_eq_false (by have := Hl0.out; omega), Bool.false_and, Bool.false_and]))
     go_quiet (fail)
     go_wp2_with fail
     go_ret
     exact ⟨ret_bool (by first | rfl | exact hR.out.symm), Below.drewN hb5 _⟩
    ·have d1 : decide (num < 1) = false := decide_eq_false h1
     by_cases h2 : 536870911 < num
     ·have d2 : decide (536870911 < num) = true := decide_eq_true h2
      have hR : Hid (RES = false) := Yq (Hfl.out (by rw [HI.out, decide_eq_false (by omega), Bool.false_and, Bool.false_and]))
      go_quiet (fail)
      go_wp2_with fail
      go_ret
      exact ⟨ret_bool (by first | rfl | exact hR.out.symm), Below.drewN hb5 _⟩
     ·have d2 : decide (536870911 < num) = false := decide_eq_false h2
      have Hnum : Hid (1 ≤ num ∧ num ≤ 536870911) := Yq (by omega)
      clear h1 h2
      by_cases hk0 : k = 0
      ·subst hk0
       have y2 : decide ((0 : Int) < ((0 : Nat) : Int)) = false := rfl
       have Hla : Hid (la < num) := Yq (by have h := Hl00.out rfl; have := Hnum.out; omega)
       by_cases h4 : ek = 0
       ·have d4 : (ek == 0) = true := by simp [h4]
        have hR : Hid (RES = false) := Yq (Hfl.out (by rw [HI.out, decide_eq_false (by omega), Bool.false_and, Bool.false_and]))
        have H4 := Yq h4; clear h4
        go_quiet (fail)
        go_wp2_with fail
        go_ret
        exact ⟨ret_bool (by first | rfl | exact hR.out.symm), Below.drewN hb5 _⟩
       ·have d4 : (ek == 0) = false := by simp [h4]
        have Hdc : Hid (decide (la < num ∧ num ≤ 536870911 ∧ ek ≠ 0) = true) := Yq (decide_eq_true ⟨Hla.out, Hnum.out.2, h4⟩)
        have H4 := Yq h4; clear h4
        have p1 : w5.rangeAt g4 1 exc := (HO.at 0 rfl).range (p := [.int .i64 num]) (q := exc) (r := []) (by simp) rfl
        have hb6 := hb5.drew
        have HOd := Yq HO.drew
        go_wp2_with fail
        refine wp_region_still_tail 33 (by kernel_rfl) (by kernel_rfl) ?_
        change wpStill _ _ (World.drew _) _ _ _
        simp only [List.take_succ_cons, List.take_zero, List.drop_succ_cons, List.drop_zero]
        refine wpStill_of_quiet ?_
        iterate 32 go_big_quiet_step (fail)
        refine wpQuiet_load_seg rfl 40 _ rfl g4 1 rfl exc _ p1 Tryz.underlying40 rfl (iC infoRV HLe) ?_
        refine wpQuiet_nil ?_
        change wpList _ _ _ _ _ (World.drew _)
        cases re with
        | false =>
         have hR : Hid (RES = false) := Yq (Hfl.out (by rw [HI.out, Bool.and_false, Bool.false_and]))
         go_wp2_with (go_at_call 21; (with_reducible refine (HR.out _ hb6).mono ?_); rintro e w7 ⟨rfl, hbc⟩)
         go_ret
         exact ⟨ret_bool (by first | rfl | exact hR.out.symm), hb6.trans (hbc.mono hb6.size)⟩
        | true =>
         go_wp2_with (go_at_call 21; (with_reducible refine (HR.out _ hb6).mono ?_); rintro e w7 ⟨rfl, hbc⟩)
         go_roundw
         case rel => exact ⟨0 + 1, by omega, by go_num, Yq (by rw [HLs.out, HI.out, Hdc.out]; simp), Yq (by rw [HLs.out]; have := Hnum.out; omega), Yq ((HOd.out.call hbc).sub (.cons _ (List.Sublist.refl _)))⟩
         case measure => simp [intOf]; omega
      ·obtain ⟨j, hj⟩ : ∃ j, k = j + 1 := ⟨k - 1, by omega⟩
       obtain ⟨b1, o1, hb1, hidx1, hp1⟩ := HPv.out j hj
       have q7 : w5.cell? ⟨b1, o1, none⟩ = some (.int .i64 la) := (hb5.cell hb1).trans hp1
       have y1 : (0 : Int) < (k : Int) := by omega
       have y2 : decide ((0 : Int) < (k : Int)) = true := decide_eq_true y1
       have y4 : 0 < k := by omega
       have y3 : (k : Int) - 1 < (ns1 : Int) := by omega
       have hwr : IntKind.i64.wrap ((k : Int) - 1) = (k : Int) - 1 := IntWalk.i64_in _ (by omega)
       clear hj hp1 hk0
       by_cases h3 : num ≤ la
       ·have d3 : decide (num ≤ la) = true := decide_eq_true h3
        have d3b : decide (la ≥ num) = true := decide_eq_true h3
        have hR : Hid (RES = false) := Yq (Hfl.out (by rw [HI.out, decide_eq_false (by omega), Bool.false_and, Bool.false_and]))
        go_quiet (fail)
        go_wp2_with fail
        go_ret
        exact ⟨ret_bool (by first | rfl | exact hR.out.symm), Below.drewN hb5 _⟩
       ·have d3 : decide (num ≤ la) = false := decide_eq_false h3
        have d3b : decide (la ≥ num) = false := decide_eq_false h3
        have Hla : Hid (la < num) := Yq (by omega)
        clear h3
        by_cases h4 : ek = 0
        ·have d4 : (ek == 0) = true := by simp [h4]
         have hR : Hid (RES = false) := Yq (Hfl.out (by rw [HI.out, decide_eq_false (by omega), Bool.false_and, Bool.false_and]))
         have H4 := Yq h4; clear h4
         go_quiet (fail)
         go_wp2_with fail
         go_ret
         exact ⟨ret_bool (by first | rfl | exact hR.out.symm), Below.drewN hb5 _⟩
        ·have d4 : (ek == 0) = false := by simp [h4]
         have Hdc : Hid (decide (la < num ∧ num ≤ 536870911 ∧ ek ≠ 0) = true) := Yq (decide_eq_true ⟨Hla.out, Hnum.out.2, h4⟩)
         have H4 := Yq h4; clear h4
         have p1 : w5.rangeAt g4 1 exc := (HO.at 0 rfl).range (p := [.int .i64 num]) (q := exc) (r := []) (by simp) rfl
         have hb6 := hb5.drew
         have HOd := Yq HO.drew
         go_wp2_with fail
         refine wp_region_still_tail 33 (by kernel_rfl) (by kernel_rfl) ?_
         change wpStill _ _ (World.drew _) _ _ _
         simp only [List.take_succ_cons, List.take_zero, List.drop_succ_cons, List.drop_zero]
         refine wpStill_of_quiet ?_
         iterate 32 go_big_quiet_step (fail)
         refine wpQuiet_load_seg rfl 40 _ rfl g4 1 rfl exc _ p1 Tryz.underlying40 rfl (iC infoRV HLe) ?_
         refine wpQuiet_nil ?_
         change wpList _ _ _ _ _ (World.drew _)
         cases re with
         | false =>
          have hR : Hid (RES = false) := Yq (Hfl.out (by rw [HI.out, Bool.and_false, Bool.false_and]))
          go_wp2_with (go_at_call 21; (with_reducible refine (HR.out _ hb6).mono ?_); rintro e w7 ⟨rfl, hbc⟩)
          go_ret
          exact ⟨ret_bool (by first | rfl | exact hR.out.symm), hb6.trans (hbc.mono hb6.size)⟩
         | true =>
          go_wp2_with (go_at_call 21; (with_reducible refine (HR.out _ hb6).mono ?_); rintro e w7 ⟨rfl, hbc⟩)
          go_roundw
          case rel => exact ⟨k + 1, by omega, by go_num, Yq (by rw [HLs.out, HI.out, Hdc.out]; simp), Yq (by rw [HLs.out]; have := Hnum.out; omega), Yq ((HOd.out.call hbc).sub (.cons _ (List.Sublist.refl _)))⟩
          case measure => simp [intOf]; omega
   ·obtain rfl : k = ns1 := by omega
    have HF1 : Hid (rightF 0 f = true) := Yq (by rw [HI.out, List.drop_of_length_le (by rw [← Hm1.out, Hn1.out]; exact Nat.le_refl _), rightF])
    have HO1 := Yq HO
    obtain ⟨q0, q1, q2, q3, q4, q5, q6⟩ := HC1.out _ _ (HO.at 0 rfl)
    clear HO HI hlt Hl0
    go_wp2_with fail
    clear q0 q1 q2 q3 q4 q5 q6
    go_simp
    go_loopw [119] (fun i wr => ∃ (k : Nat), k ≤ ns2 ∧ i = .int .i64 k ∧ Hid (rightL l = rightL (l.drop k)) ∧ Hid (Own w [(g1, xc)] wr)) (fun i _ => ns2 - (intOf i).toNat)
    case atStart => exact ⟨0, Nat.zero_le _, rfl, Yq rfl, HO1⟩
    case round =>
     obtain ⟨k, hkn, rfl, HI, HO⟩ := hrel
     replace HO := HO.out
     by_cases hlt : k < ns2
     ·have hks : k < le.length := by rw [Hn2.out]; exact hlt
      have hkf : k < l.length := by rw [← Hm2.out, Hn2.out]; exact hlt
      obtain ⟨b0, o0, hb0, hidx, hcell⟩ := FlatC.at (n := ns2) (cap := c2) (a := a2) HX2.out.1 (by decide) (i := k) hks Tryz.underlying37 sizeRL
      have hr : wr.rangeAt b0 o0 le[k] := range_below hcell HO.below hb0
      have rx := HX2.out.2.at hkf hks
      have HLe := Yq rx.len
      have H1 := Yq rx.ones
      have HR := Yq (fun (w0 : World) (hb : Below w.heap.size w w0) => rsingle_at N ih l[k] le[k] w0 (HS2.out _ (List.getElem_mem hkf)) (HV2.out _ (List.getElem_mem hkf)) (rx.mono (below_le hb)))
      have hnx := Val.rightL_drop hkf
      generalize partB l[k] = re at *
      rw [hnx] at HI
      generalize le[k] = exc at *
      clear hcell rx hnx hks hkf
      go_upto_region 14 with (first
     | ((with_reducible refine atOp (.load 40 _) ?_); refine wpList_load_seg rfl 40 _ rfl _ _ rfl _ _ hr Tryz.underlying40 rfl (iC infoRV HLe) ?_)
     | ((with_reducible refine atOp (.alloc 40) ?_); refine wpList_alloc_own rfl 40 rfl zV zeroRV HO ?_; clear HO; intro w6 g6 HO)
     | ((with_reducible refine atOp (.store 40 _ _) ?_); refine wpList_store_own 0 rfl 40 _ _ rfl _ 0 exc rfl rfl HO rfl (iC infoRV HLe) (by rw [HLe.out]; decide) H1.out (patch_whole' _ _ (by rw [HLe.out]; rfl)) ?_; clear HO hr hidx; intro w5 HO)
     | fail)
      have hv := (HO.at 0 rfl).whole
      have hb5 := HO.below
      cases re with
      | false =>
       have hR : Hid (RES = false) := Yq (by rw [HRF.out, HI.out, Bool.false_and, Bool.false_and, Bool.and_false])
       go_wp2_with (first
     | ((with_reducible refine atOp (.load 40 _) ?_); refine wpList_load_seg rfl 40 _ rfl _ _ rfl _ _ hv Tryz.underlying40 rfl (iC infoRV HLe) ?_)
     | (go_at_call 45; (with_reducible refine (HR.out _ hb5).mono ?_); rintro e w7 ⟨rfl, hbc⟩)
     | fail)
       go_ret
       exact ⟨ret_bool (by first | rfl | exact hR.out.symm), hb5.trans (hbc.mono hb5.size)⟩
      | true =>
       go_wp2_with (first
     | ((with_reducible refine atOp (.load 40 _) ?_); refine wpList_load_seg rfl 40 _ rfl _ _ rfl _ _ hv Tryz.underlying40 rfl (iC infoRV HLe) ?_)
     | (go_at_call 45; (with_reducible refine (HR.out _ hb5).mono ?_); rintro e w7 ⟨rfl, hbc⟩)
     | fail)
       go_roundw
       case rel => exact ⟨k + 1, by omega, by go_num, Yq (by rw [HI.out, Bool.true_and]), Yq ((HO.call hbc).sub (.cons _ (List.Sublist.refl _)))⟩
       case measure => simp [intOf]; omega
     ·obtain rfl : k = ns2 := by omega
      have HF2 : Hid (rightL l = true) := Yq (by rw [HI.out, List.drop_of_length_le (by rw [← Hm2.out, Hn2.out]; exact Nat.le_refl _), rightL])
      have HO1 := Yq HO
      obtain ⟨q0, q1, q2, q3, q4, q5, q6⟩ := HC1.out _ _ (HO.at 0 rfl)
      clear HO HI hlt
      go_wp2_with fail
      clear q0 q1 q2 q3 q4 q5 q6
      go_simp
      go_loopw [130] (fun i wr => ∃ (k : Nat), k ≤ ns3 ∧ i = .int .i64 k ∧ Hid (rightP none ps = rightP (lastP ps k) (ps.drop k)) ∧ Hid (∀ j (hj : j < ps.length), j < k → ps[j].1.kind = (ps.getD 0 (v0, v0)).1.kind) ∧ Hid (Own w [(g1, xc)] wr)) (fun i _ => ns3 - (intOf i).toNat)
      case atStart => exact ⟨0, Nat.zero_le _, rfl, Yq rfl, Yq (fun j _ h => absurd h (Nat.not_lt_zero _)), HO1⟩
      case round =>
       obtain ⟨k, hkn, rfl, HI, HJ, HO⟩ := hrel
       replace HO := HO.out
       by_cases hlt : k < ns3
       ·have hks : k < pe.length := by rw [Hn3.out]; exact hlt
        have hkf : k < ps.length := by rw [← Hm3.out, Hn3.out]; exact hlt
        obtain ⟨b0, o0, hb0, hidx, hcell⟩ := FlatC.at (n := ns3) (cap := c3) (a := a3) HX3.out.1 (by decide) (i := k) hks Tryz.underlying38 sizeRP
        have hr : wr.rangeAt b0 o0 pe[k] := range_below hcell HO.below hb0
        obtain ⟨kc, exc, hx, rk, rx⟩ := HX3.out.2.at hkf hks
        rw [hx] at hr
        have HLk := Yq rk.len; have HLe := Yq rx.len
        have HL8 : Hid ((kc ++ exc).length = 14) := by show _ = _; rw [List.length_append, rk.len, rx.len]
        have H1 : Hid (∀ u ∈ kc ++ exc, u.oneCell' = true) := fun u hu => by
         rcases List.mem_append.1 hu with hu | hu
         ·exact rk.ones u hu
         ·exact rx.ones u hu
        have HK1 : Hid ((kc ++ exc)[0]? = some (.int .i64 ps[k].1.kind)) := Yq (by rw [List.getElem?_append_left (by rw [rk.len]; decide)]; exact rk.k0)
        have HRk := Yq (fun (w0 : World) (hb : Below w.heap.size w w0) => rsingle_at N ih ps[k].1 kc w0 (HS3.out _ (List.getElem_mem hkf)).1 (HV3.out _ (List.getElem_mem hkf)).1 (rk.mono (below_le hb)))
        have HRx := Yq (fun (w0 : World) (hb : Below w.heap.size w w0) => rsingle_at N ih ps[k].2 exc w0 (HS3.out _ (List.getElem_mem hkf)).2 (HV3.out _ (List.getElem_mem hkf)).2 (rx.mono (below_le hb)))
        have hnx := Val.rightP_next (m := lastP ps k) hkf
        have HLs := Yq (Val.lastP_succ hkf)
        have HP0 : Hid (∃ b1 o1, b1 < w.heap.size ∧ (∀ w', (Instr.indexAt 38 (.slice a3 ns3 c3) (.int .i64 0)).run Tryz.prog w' = .ok (.pointer (some ⟨b1, o1, none⟩)) w') ∧ w.cell? ⟨b1, o1, none⟩ = some (.int .i64 (ps.getD 0 (v0, v0)).1.kind)) := by
         have hjs : 0 < pe.length := by omega
         have hjf : 0 < ps.length := by omega
         obtain ⟨b1, o1, hb1, hi1, hc1⟩ := FlatC.at (n := ns3) (cap := c3) (a := a3) HX3.out.1 (by decide) (i := 0) hjs Tryz.underlying38 sizeRP
         obtain ⟨zk, zc, hz, rzk, rz⟩ := HX3.out.2.at hjf hjs
         refine ⟨b1, o1, hb1, hi1, ?_⟩
         have h := hc1 0 (.int .i64 ps[0].1.kind) (by rw [hz, List.getElem?_append_left (by rw [rzk.len]; decide)]; exact rzk.k0)
         simpa [List.getD_eq_getElem?_getD, hjf] using h
        have HPv : Hid (∀ (j : Nat), k = j + 1 → ∃ (b1 o1 : Nat) (q : V) (lc : List Value), b1 < w.heap.size ∧ (∀ w', (Instr.indexAt 38 (.slice a3 ns3 c3) (.int .i64 ((k : Int) - 1))).run Tryz.prog w' = .ok (.pointer (some ⟨b1, o1, none⟩)) w') ∧ w.rangeAt b1 o1 lc ∧ VR (frag w) q lc ∧ lastP ps k = some q ∧ q.kind = (ps.getD 0 (v0, v0)).1.kind) := fun j hj => by
         subst hj
         have hjs : j < pe.length := by omega
         have hjf : j < ps.length := by omega
         obtain ⟨b1, o1, hb1, hi1, hc1⟩ := FlatC.at (n := ns3) (cap := c3) (a := a3) HX3.out.1 (by decide) (i := j) hjs Tryz.underlying38 sizeRP
         obtain ⟨zk, zc, hz, rzk, rz⟩ := HX3.out.2.at hjf hjs
         refine ⟨b1, o1, ps[j].1, zk, hb1, ?_, ?_, rzk, Val.lastP_succ hjf, HJ.out j hjf (by omega)⟩
         ·rw [show (((j + 1 : Nat)) : Int) - 1 = (j : Int) by omega]; exact hi1
         ·intro i u hu
          exact hc1 i u (by rw [hz, List.getElem?_append_left (by have := (List.getElem?_eq_some_iff.1 hu).1; exact this)]; exact hu)
        have HCm : Hid (∀ (q : V) (lc : List Value) (w0 : World), VR (frag w) q lc → Below w.heap.size w w0 → Calls Tryz.prog 26 #[.agg lc.toArray, .agg kc.toArray] w0 fun e w' => e = .returned (.int .i64 (cmp q ps[k].1)) ∧ Below w0.heap.size w0 w') := fun q lc w0 hq hb => rcmp_any q ps[k].1 lc kc w0 (hq.mono (below_le hb)) (rk.mono (below_le hb))
        have HJn : Hid (ps[k].1.kind = (ps.getD 0 (v0, v0)).1.kind → ∀ j (hj : j < ps.length), j < k + 1 → ps[j].1.kind = (ps.getD 0 (v0, v0)).1.kind) := Yq (fun h j hj hlt => by
         by_cases e : j = k
         ·subst e; exact h
         ·exact HJ.out j hj (by omega))
        have Hz0 : Hid (k = 0 → ps[k].1.kind = (ps.getD 0 (v0, v0)).1.kind) := Yq (fun h => by subst h; simp [List.getD_eq_getElem?_getD, hkf])
        have Hpk : Hid (partB ps[k].1 = (decide (1 ≤ ps[k].1.kind ∧ ps[k].1.kind ≤ 3) && right ps[k].1)) := Yq rfl
        have HPb : Hid (∀ q : V, Val.prevB (some q) ps[k].1 = (decide (q.kind = ps[k].1.kind) && decide (cmp q ps[k].1 < 0))) := Yq (fun q => Val.prevB_some q _)
        rw [hnx] at HI
        generalize hrest : rightP (some ps[k].1) (ps.drop (k + 1)) = rest at HI
        have Hrest := Yq hrest
        clear hcell hx rk rx hnx hrest hks HJ
        generalize partB ps[k].2 = pb at *
        generalize partB ps[k].1 = pa at *
        generalize right ps[k].1 = ra at *
        generalize hkk : ps[k].1.kind = kk at *
        have Hkk := Yq hkk
        generalize hky : ps[k].1 = key at *
        generalize (ps.getD 0 (v0, v0)).1.kind = z0 at *
        have Hky := Yq hky
        clear hkk hky
        go_upto_region 20 with (first
       | ((with_reducible refine atOp (.load 67 _) ?_); refine wpList_load_seg rfl 67 _ rfl _ _ rfl _ _ hr Tryz.underlying67 rfl (iC infoRP HL8) ?_)
       | ((with_reducible refine atOp (.alloc 67) ?_); refine wpList_alloc_own rfl 67 rfl (zV ++ zV) zeroRP HO ?_; clear HO; intro w6 g8 HO)
       | ((with_reducible refine atOp (.store 67 _ _) ?_); refine wpList_store_own 0 rfl 67 _ _ rfl _ 0 (kc ++ exc) rfl rfl HO rfl (iC infoRP HL8) (by rw [HL8.out]; decide) H1.out (patch_whole' _ _ (by rw [HL8.out]; rfl)) ?_; clear HO hr hidx; intro w5 HO)
       | fail)
        have n0 : w5.cell? ⟨g8, 0, none⟩ = some (.int .i64 kk) := (HO.at 0 rfl).cell HK1.out
        have Hfl : Hid (rightP none ps = false → RES = false) := Yq (fun h => by rw [HRF.out, h, Bool.and_false, Bool.and_false])
        have hb5 := HO.below
        have p0 : w5.rangeAt g8 0 kc := (HO.at 0 rfl).range (p := []) (q := kc) (r := exc) (by simp) rfl
        have p7 : w5.rangeAt g8 7 exc := (HO.at 0 rfl).range (p := kc) (q := exc) (r := []) (by simp) HLk.out
        by_cases h1 : 2 < kk
        ·have d1 : decide (2 < kk) = true := decide_eq_true h1
         have hR : Hid (RES = false) := Yq (Hfl.out (by rw [HI.out, decide_eq_false (by omega)]; simp))
         go_wp2_with fail
         go_ret
         exact ⟨ret_bool (by first | rfl | exact hR.out.symm), hb5⟩
        ·have d1 : decide (2 < kk) = false := decide_eq_false h1
         cases pa with
         | false =>
          have hR : Hid (RES = false) := Yq (Hfl.out (by
           have h := Hpk.out.symm
           rw [HI.out]
           simp only [Bool.and_eq_false_iff, decide_eq_false_iff_not] at h ⊢
           rcases h with h | h
           ·left; left; left; left; omega
           ·left; left; left; right; exact h))
          go_wp2_with (first
       | ((with_reducible refine atOp (.load 40 _) ?_); refine wpList_load_seg rfl 40 _ rfl _ _ rfl _ _ p0 Tryz.underlying40 rfl (iC infoRV HLk) ?_)
       | (go_at_call 45; (with_reducible refine (HRk.out _ hb5).mono ?_); rintro e w7 ⟨rfl, hbc⟩)
       | fail)
          go_ret
          exact ⟨ret_bool (by first | rfl | exact hR.out.symm), hb5.trans (hbc.mono hb5.size)⟩
         | true =>
          have Hpk2 : Hid ((kk = 1 ∨ kk = 2) ∧ ra = true) := Yq (by
           have h := Hpk.out.symm
           simp only [Bool.and_eq_true, decide_eq_true_eq] at h
           exact ⟨by omega, h.2⟩)
          have HOc := Yq (fun (w7 : World) (hb : Below w5.heap.size w5 w7) => And.intro (HO.call hb) ((((HO.call hb).at 0 rfl).range (p := kc) (q := exc) (r := []) (by simp) HLk.out : w7.rangeAt g8 7 exc)))
          cases pb with
          | false =>
           have hR : Hid (RES = false) := Yq (Hfl.out (by rw [HI.out]; simp))
           go_wp2_with (first
       | ((with_reducible refine atOp (.load 40 _) ?_); refine wpList_load_seg rfl 40 _ rfl _ _ rfl _ _ p0 Tryz.underlying40 rfl (iC infoRV HLk) ?_)
       | ((with_reducible refine atOp (.load 40 _) ?_); refine wpList_load_seg rfl 40 _ rfl _ _ rfl _ _ p7 Tryz.underlying40 rfl (iC infoRV HLe) ?_)
       | (go_at_call 45; (with_reducible refine (HRk.out _ hb5).mono ?_); rintro e w7 ⟨rfl, hbc⟩; obtain ⟨HO7, p7⟩ := HOc.out _ hbc; have hb7 := HO7.below; clear p0)
       | (go_at_call 45; (with_reducible refine (HRx.out _ hb7).mono ?_); rintro e w8 ⟨rfl, hbc⟩)
       | fail)
           go_ret
           exact ⟨ret_bool (by first | rfl | exact hR.out.symm), hb7.trans (hbc.mono hb7.size)⟩
          | true =>
           have HI2 : Hid (rightP none ps = (Val.prevB (lastP ps k) key && rest)) := Yq (by
            rw [HI.out, decide_eq_true Hpk2.out.1, Hpk2.out.2]; simp)
           clear HI
           go_upto_region 22 with (first
       | ((with_reducible refine atOp (.load 40 _) ?_); refine wpList_load_seg rfl 40 _ rfl _ _ rfl _ _ p0 Tryz.underlying40 rfl (iC infoRV HLk) ?_)
       | ((with_reducible refine atOp (.load 40 _) ?_); refine wpList_load_seg rfl 40 _ rfl _ _ rfl _ _ p7 Tryz.underlying40 rfl (iC infoRV HLe) ?_)
       | (go_at_call 45; (with_reducible refine (HRk.out _ hb5).mono ?_); rintro e w7 ⟨rfl, hbc⟩; obtain ⟨HO7, p7⟩ := HOc.out _ hbc; have hb7 := HO7.below; clear p0 n0)
       | (go_at_call 45; (with_reducible refine (HRx.out _ hb7).mono ?_); rintro e w8 ⟨rfl, hbc⟩)
       | fail)
           go_simp
           have HO8 := Yq (HO7.call hbc)
           clear HO7 hb7 hbc p7 HO hb5
           have hb8 := HO8.out.below
           have m0 : w8.cell? ⟨g8, 0, none⟩ = some (.int .i64 kk) := (HO8.out.at 0 rfl).cell HK1.out
           obtain ⟨_, _, _, _, _, _, q6⟩ := HC1.out _ _ (HO8.out.at 1 rfl)
           by_cases hk0 : k = 0
           ·have y2 : decide ((0 : Int) < (k : Int)) = false := decide_eq_false (by omega)
            have y1 : ¬ ((0 : Int) < (k : Int)) := by omega
            have y3 : decide (0 < k) = false := decide_eq_false (by omega)
            have y4 : ¬ (0 < k) := by omega
            have Hl0 : Hid (lastP ps k = none) := Yq (by rw [hk0]; rfl)
            have Hzz : Hid (kk = z0) := Yq (Hz0.out hk0)
            clear hk0
            refine wp_region_quiet_lit (by kernel_rfl) (by kernel_rfl) ?_
            iterate 27 go_big_quiet_step (fail)
            refine wpQuiet_nil ?_
            intro _ hw'
            obtain ⟨nq, hw''⟩ := hw'
            subst hw''
            all_goals
             go_wp2_with fail
             go_roundw
             case rel => exact ⟨k + 1, by omega, by go_num, Yq (by rw [HI2.out, Hl0.out, Val.prevB_none, Bool.true_and, ← Hrest.out, HLs.out]), Yq (HJn.out Hzz.out), Yq ((HO8.out.drewN _).sub (.cons _ (List.Sublist.refl _)))⟩
             case measure => simp [intOf]; omega
           ·obtain ⟨j, hj⟩ : ∃ j, k = j + 1 := ⟨k - 1, by omega⟩
            obtain ⟨b1, o1, qv, lc, hb1, hidx1, hp1, rq, hlq, hqk⟩ := HPv.out j hj
            obtain ⟨b2, o2, hb2, hidx2, hp2⟩ := HP0.out
            have HCq := Yq (fun (w0 : World) (hb : Below w.heap.size w w0) => HCm.out qv lc w0 rq hb)
            have HLq := Yq rq.len
            have Hqk := Yq hqk; have Hlq := Yq hlq
            have q7 : w8.cell? ⟨b2, o2, none⟩ = some (.int .i64 z0) := (hb8.cell hb2).trans hp2
            have r7 : w8.rangeAt b1 o1 lc := range_below hp1 hb8 hb1
            have y1 : (0 : Int) < (k : Int) := by omega
            have y2 : decide ((0 : Int) < (k : Int)) = true := decide_eq_true y1
            have y4 : 0 < k := by omega
            have y3 : (k : Int) - 1 < (ns3 : Int) := by omega
            have g5 : (0 : Int) < (ns3 : Int) := by omega
            have hwr : IntKind.i64.wrap ((k : Int) - 1) = (k : Int) - 1 := IntWalk.i64_in _ (by omega)
            clear hj hp1 hk0 rq hlq hqk hp2
            by_cases h3 : z0 = kk
            ·have d3 : (z0 != kk) = false := by simp [h3]
             have Hzz : Hid (kk = z0) := Yq h3.symm
             clear h3
             have p0 : w8.rangeAt g8 0 kc := (HO8.out.at 0 rfl).range (p := []) (q := kc) (r := exc) (by simp) rfl
             have hb9 := hb8.drew
             have HOd := Yq HO8.out.drew
             have HPq : Hid (Val.prevB (some qv) key = decide (cmp qv key < 0)) := Yq (by rw [HPb.out, Hqk.out, decide_eq_true Hzz.out.symm, Bool.true_and])
             generalize cmp qv key = c at *
             go_wp2_with fail
             refine wp_region_still_tail 23 (by kernel_rfl) (by kernel_rfl) ?_
             change wpStill _ _ (World.drew _) _ _ _
             simp only [List.take_succ_cons, List.take_zero, List.drop_succ_cons, List.drop_zero]
             refine wpStill_of_quiet ?_
             iterate 20 go_big_quiet_step (fail)
             refine wpQuiet_load_seg rfl 40 _ rfl b1 o1 rfl lc _ r7 Tryz.underlying40 rfl (iC infoRV HLq) ?_
             go_simp
             iterate 1 go_big_quiet_step (fail)
             refine wpQuiet_load_seg rfl 40 _ rfl g8 0 rfl kc _ p0 Tryz.underlying40 rfl (iC infoRV HLk) ?_
             refine wpQuiet_nil ?_
             change wpList _ _ _ _ _ (World.drew _)
             by_cases hc : c < 0
             ·have dc : decide (0 ≤ c) = false := decide_eq_false (by omega)
              have dc2 : decide (c ≥ 0) = false := decide_eq_false (by omega)
              have Hc := Yq hc; clear hc
              go_wp2_with (go_at_call 26; (with_reducible refine (HCq.out _ hb9).mono ?_); rintro e w7 ⟨rfl, hbc⟩)
              go_roundw
              case rel => exact ⟨k + 1, by omega, by go_num, Yq (by rw [HI2.out, Hlq.out, HPq.out, decide_eq_true Hc.out, Bool.true_and, ← Hrest.out, HLs.out]), Yq (HJn.out Hzz.out), Yq ((HOd.out.call hbc).sub (.cons _ (List.Sublist.refl _)))⟩
              case measure => simp [intOf]; omega
             ·have dc : decide (0 ≤ c) = true := decide_eq_true (by omega)
              have dc2 : decide (c ≥ 0) = true := decide_eq_true (by omega)
              have hR : Hid (RES = false) := Yq (Hfl.out (by rw [HI2.out, Hlq.out, HPq.out, decide_eq_false hc, Bool.false_and]))
              have Hc := Yq hc; clear hc
              go_wp2_with (go_at_call 26; (with_reducible refine (HCq.out _ hb9).mono ?_); rintro e w7 ⟨rfl, hbc⟩)
              go_ret
              exact ⟨ret_bool (by first | rfl | exact hR.out.symm), hb9.trans (hbc.mono hb9.size)⟩
            ·have d3 : (z0 != kk) = true := by simp [h3]
             have hR : Hid (RES = false) := Yq (Hfl.out (by rw [HI2.out, Hlq.out, HPb.out, Hqk.out, decide_eq_false h3, Bool.false_and, Bool.false_and]))
             have H3 := Yq h3; clear h3
             go_quiet (fail)
             go_wp2_with fail
             go_ret
             exact ⟨ret_bool (by first | rfl | exact hR.out.symm), Below.drewN hb8 _⟩
       ·obtain rfl : k = ns3 := by omega
        have HF3 : Hid (rightP none ps = true) := Yq (by rw [HI.out, List.drop_of_length_le (by rw [← Hm3.out, Hn3.out]; exact Nat.le_refl _), rightP.eq_def])
        go_wp2_with fail
        go_ret
        exact ⟨ret_bool (by rw [HRF.out, HF1.out, HF2.out, HF3.out]; rfl), HO.below⟩
theorem rright_all : ∀ N, RRightAt N
 | 0 => fun x xc w h => absurd h (Nat.not_lt_zero _)
 | N + 1 => rright_succ N (rright_all N)
theorem rright_any (x : V) (xc : List Value) (w : World) (hm : Val.vsm x) (hx : VR (frag w) x xc) :
  Calls Tryz.prog 21 #[.agg xc.toArray] w fun e w' => e = .returned (.bool (right x)) ∧ Below w.heap.size w w' := rright_all _ x xc w (Nat.lt_succ_self _) hm hx
end Go.Proofs.YtebekgdjknenlaaGreatDoor
