/- redlineref21.nothing, part, redlineref23.part, walked. redlineref21.Right. -/
import Derived.Test.YtebekgdjknenlaaGreatDoorRefRight
set_option maxRecDepth 100000
set_option maxHeartbeats 16000000
set_option linter.unusedVariables false
set_option linter.unusedSimpArgs false
namespace Go.Proofs.YtebekgdjknenlaaGreatDoor
open Go.RowKit
open Val (V v0 right partB noneV)
theorem rnothing_any  (x : V) (xc : List Value) (w : World) (hm : Val.vsm x) (hx : VR (frag w) x xc) :
  Calls Tryz.prog 42 #[.agg xc.toArray] w fun e w' => e = .returned (.bool (noneV x)) ∧ Below w.heap.size w w' := by
 have HR := Yq (fun (w0 : World) (hb : Below w.heap.size w w0) => rright_any x xc w0 hm (hx.mono (below_le hb)))
 have HK0 := Yq hx.k0; have HLx := Yq hx.len
 have hpb : noneV x = (decide (x.kind = 0) && right x) := rfl
 rw [hpb]
 generalize right x = rx at *
 generalize x.kind = kd at *
 clear hpb hx
 go_enter Tryz.func42, Tryz.ntmps42
 have HO := Own.nil w
 go_upto_region 1 with (first
 | ((with_reducible refine atOp (.box 40 _) ?_); refine wpList_box_own rfl 40 _ rfl xc rfl HO ?_; clear HO; intro w1 g1 HO)
 | fail)
 have q0 := (HO.at 0 rfl).cell HK0.out
 have hv := (HO.at 0 rfl).whole
 by_cases h0 : kd = 0
 ·subst h0
  go_wp2_with (first
  | ((with_reducible refine atOp (.load 40 _) ?_); refine wpList_load_seg rfl 40 _ rfl _ _ rfl _ _ hv Tryz.underlying40 rfl (iC infoRV HLx) ?_)
  | (go_at_call 21; (with_reducible refine (HR.out _ HO.below).mono ?_); rintro e w7 ⟨rfl, hbc⟩)
  | fail)
  go_ret
  exact ⟨ret_bool (by simp), (HO.call hbc).below⟩
 ·skip
  have e0 : (kd == 0) = false := by simpa using h0
  have f0 : decide (kd = 0) = false := by simpa using h0
  go_wp2_with fail
  go_ret
  exact ⟨ret_bool (by rw [decide_eq_false h0, Bool.false_and]), HO.below⟩
theorem rpart21_any  (x : V) (xc : List Value) (w : World) (hm : Val.vsm x) (hx : VR (frag w) x xc) :
  Calls Tryz.prog 44 #[.agg xc.toArray] w fun e w' => e = .returned (.bool (partB x)) ∧ Below w.heap.size w w' := by
 have HR := Yq (fun (w0 : World) (hb : Below w.heap.size w w0) => rright_any x xc w0 hm (hx.mono (below_le hb)))
 have HK0 := Yq hx.k0; have HLx := Yq hx.len
 have hpb : partB x = (decide (1 ≤ x.kind ∧ x.kind ≤ 3) && right x) := rfl
 rw [hpb]
 generalize right x = rx at *
 generalize x.kind = kd at *
 clear hpb hx
 go_enter Tryz.func44, Tryz.ntmps44
 have HO := Own.nil w
 go_upto_region 1 with (first
 | ((with_reducible refine atOp (.box 40 _) ?_); refine wpList_box_own rfl 40 _ rfl xc rfl HO ?_; clear HO; intro w1 g1 HO)
 | fail)
 have q0 := (HO.at 0 rfl).cell HK0.out
 have hv := (HO.at 0 rfl).whole
 by_cases h1 : kd = 1
 ·subst h1
  go_wp2_with (first
  | ((with_reducible refine atOp (.load 40 _) ?_); refine wpList_load_seg rfl 40 _ rfl _ _ rfl _ _ hv Tryz.underlying40 rfl (iC infoRV HLx) ?_)
  | (go_at_call 21; (with_reducible refine (HR.out _ HO.below).mono ?_); rintro e w7 ⟨rfl, hbc⟩)
  | fail)
  go_ret
  exact ⟨ret_bool (by simp), (HO.call hbc).below⟩
 ·skip
  by_cases h2 : kd = 2
  ·subst h2
   go_wp2_with (first
   | ((with_reducible refine atOp (.load 40 _) ?_); refine wpList_load_seg rfl 40 _ rfl _ _ rfl _ _ hv Tryz.underlying40 rfl (iC infoRV HLx) ?_)
   | (go_at_call 21; (with_reducible refine (HR.out _ HO.below).mono ?_); rintro e w7 ⟨rfl, hbc⟩)
   | fail)
   go_ret
   exact ⟨ret_bool (by simp), (HO.call hbc).below⟩
  ·skip
   by_cases h3 : kd = 3
   ·subst h3
    go_wp2_with (first
    | ((with_reducible refine atOp (.load 40 _) ?_); refine wpList_load_seg rfl 40 _ rfl _ _ rfl _ _ hv Tryz.underlying40 rfl (iC infoRV HLx) ?_)
    | (go_at_call 21; (with_reducible refine (HR.out _ HO.below).mono ?_); rintro e w7 ⟨rfl, hbc⟩)
    | fail)
    go_ret
    exact ⟨ret_bool (by simp), (HO.call hbc).below⟩
   ·skip
    have e1 : (kd == 1) = false := by simpa using h1
    have f1 : decide (kd = 1) = false := by simpa using h1
    have e2 : (kd == 2) = false := by simpa using h2
    have f2 : decide (kd = 2) = false := by simpa using h2
    have e3 : (kd == 3) = false := by simpa using h3
    have f3 : decide (kd = 3) = false := by simpa using h3
    go_wp2_with fail
    go_ret
    exact ⟨ret_bool (by rw [decide_eq_false (by omega), Bool.false_and]), HO.below⟩
theorem rpart23_any (x : V) (xc : List Value) (w : World) (hx : VR (frag w) x xc) :
  Calls Tryz.prog 50 #[.agg xc.toArray] w fun e w' => e = .returned (.bool (decide (1 ≤ x.kind ∧ x.kind ≤ 3))) ∧ Below w.heap.size w w' := by
 have HK0 := Yq hx.k0
 generalize x.kind = kd at *
 clear hx
 go_enter Tryz.func50, Tryz.ntmps50
 have HO := Own.nil w
 go_upto_region 1 with (first
 | ((with_reducible refine atOp (.box 40 _) ?_); refine wpList_box_own rfl 40 _ rfl xc rfl HO ?_; clear HO; intro w1 g1 HO)
 | fail)
 have q0 := (HO.at 0 rfl).cell HK0.out
 by_cases h1 : kd = 1
 ·subst h1
  go_wp2_with fail
  go_ret
  exact ⟨ret_bool (by simp), HO.below⟩
 ·by_cases h2 : kd = 2
  ·subst h2
   go_wp2_with fail
   go_ret
   exact ⟨ret_bool (by simp), HO.below⟩
  ·by_cases h3 : kd = 3
   ·subst h3
    go_wp2_with fail
    go_ret
    exact ⟨ret_bool (by simp), HO.below⟩
   ·have e1 : (kd == 1) = false := by simpa using h1
    have e2 : (kd == 2) = false := by simpa using h2
    have e3 : (kd == 3) = false := by simpa using h3
    go_wp2_with fail
    go_ret
    exact ⟨ret_bool (by rw [decide_eq_false (by omega)]), HO.below⟩
end Go.Proofs.YtebekgdjknenlaaGreatDoor
namespace Go.Proofs.YtebekgdjknenlaaGreatDoor
open Go.RowKit
open Val (V E v0 right rightF rightL rightP partB cmp noneV bareE eright efields esteps ekeys esm esmF esmS esmK)
namespace Val
mutual
def evsm : E → Prop
 | .mk k o n f r ro rn s ks => vsm o ∧ vsm n ∧ evsmF f ∧ evsmS s ∧ evsmK ks
def evsmF : List (Int × E) → Prop
 | [] => True
 | (n, e) :: r => evsm e ∧ evsmF r
def evsmS : List (Int × Int × V × E) → Prop
 | [] => True
 | (k, c, v, e) :: r => (vsm v ∧ evsm e) ∧ evsmS r
def evsmK : List (V × E) → Prop
 | [] => True
 | (k, e) :: r => (vsm k ∧ evsm e) ∧ evsmK r
end
theorem evsmF_at : ∀ {l : List (Int × E)}, evsmF l → ∀ e ∈ l, evsm e.2
 | (n, x) :: r, h, e, he => by
  rw [evsmF] at h
  rcases List.mem_cons.1 he with rfl | he
  ·exact h.1
  ·exact evsmF_at h.2 e he
theorem evsmS_at : ∀ {l : List (Int × Int × V × E)}, evsmS l → ∀ e ∈ l, vsm e.2.2.1 ∧ evsm e.2.2.2
 | (k, c, v, x) :: r, h, e, he => by
  rw [evsmS] at h
  rcases List.mem_cons.1 he with rfl | he
  ·exact h.1
  ·exact evsmS_at h.2 e he
theorem evsmK_at : ∀ {l : List (V × E)}, evsmK l → ∀ e ∈ l, vsm e.1 ∧ evsm e.2
 | (k, x) :: r, h, e, he => by
  rw [evsmK] at h
  rcases List.mem_cons.1 he with rfl | he
  ·exact h.1
  ·exact evsmK_at h.2 e he
section
variable (o n : V) (f : List (Int × E)) (r : Bool) (ro rn : ByteArray) (s : List (Int × Int × V × E)) (ks : List (V × E))
theorem eright_0 : eright (.mk 0 o n f r ro rn s ks) = bareE 0 o n f.length r ro rn s.length ks.length := by rw [eright]; simp
theorem eright_1 : eright (.mk 1 o n f r ro rn s ks) = (bareE 1 o n f.length r ro rn s.length ks.length && (right o && (right n && !decide (cmp o n = 0)))) := by rw [eright]; simp
theorem eright_2 : eright (.mk 2 o n f r ro rn s ks) = (bareE 2 o n f.length r ro rn s.length ks.length && (efields 0 f && (decide (r = decide (ro ≠ rn)) && ((r || decide (ro.size = 0)) && (r || decide (f ≠ [])))))) := by rw [eright]; simp
theorem eright_3 : eright (.mk 3 o n f r ro rn s ks) = (bareE 3 o n f.length r ro rn s.length ks.length && esteps 0 false s) := by rw [eright]; simp
theorem eright_4 : eright (.mk 4 o n f r ro rn s ks) = (bareE 4 o n f.length r ro rn s.length ks.length && (decide (0 < ks.length) && ekeys none ks)) := by rw [eright]; simp
end
theorem z0 (m : Nat) : decide (m = 0) = !decide (0 < m) := by by_cases h : m = 0 <;> simp [h]; omega
end Val
def RR21At (N : Nat) : Prop := ∀ (x : E) (xc : List Value) (w : World), SizeOf.sizeOf x < N → esm x → Val.evsm x → ER (frag w) x xc →
 Calls Tryz.prog 20 #[.agg xc.toArray] w fun e w' => e = .returned (.bool (eright x)) ∧ Below w.heap.size w w'
theorem rr21_0 (N : Nat) (ih : RR21At N) (o n : V) (f : List (Int × E)) (r : Bool) (ro rn : ByteArray) (s : List (Int × Int × V × E)) (ks : List (V × E)) (ec : List Value) (w : World) (hsz : SizeOf.sizeOf (E.mk 0 o n f r ro rn s ks) < N + 1) (hem : esm (.mk 0 o n f r ro rn s ks)) (hev : Val.evsm (.mk 0 o n f r ro rn s ks)) (hx : ER (frag w) (.mk 0 o n f r ro rn s ks) ec) :
  Calls Tryz.prog 20 #[.agg ec.toArray] w fun e w' => e = .returned (.bool (eright (.mk 0 o n f r ro rn s ks))) ∧ Below w.heap.size w w' := by
 obtain ⟨RES, hRES⟩ : ∃ R, R = eright (.mk 0 o n f r ro rn s ks) := ⟨_, rfl⟩
 rw [← hRES]
 rw [Val.eright_0] at hRES
 have HS1 : Hid (∀ e ∈ f, SizeOf.sizeOf e.2 < N) := fun e h => by have := Val.esize_field (x := .mk 0 o n f r ro rn s ks) (m := e.1) (e := e.2) h; omega
 have HS2 : Hid (∀ e ∈ s, SizeOf.sizeOf e.2.2.2 < N) := fun e h => by have := Val.esize_step (x := .mk 0 o n f r ro rn s ks) (k := e.1) (c := e.2.1) (v := e.2.2.1) (e := e.2.2.2) h; omega
 have HS3 : Hid (∀ e ∈ ks, SizeOf.sizeOf e.2 < N) := fun e h => by have := Val.esize_key (x := .mk 0 o n f r ro rn s ks) (k := e.1) (e := e.2) h; omega
 rw [esm] at hem
 rw [Val.evsm] at hev
 have HM1 := Yq (Val.esmF_at hem.2.1); have HM2 := Yq (Val.esmS_at hem.2.2.1); have HM3 := Yq (Val.esmK_at hem.2.2.2)
 have HV1 := Yq (Val.evsmF_at hev.2.2.1); have HV2 := Yq (Val.evsmS_at hev.2.2.2.1); have HV3 := Yq (Val.evsmK_at hev.2.2.2.2)
 have Hvo := Yq hev.1; have Hvn := Yq hev.2.1
 have hro := hem.1.1; have hrn := hem.1.2
 rw [ER] at hx
 obtain ⟨oc, nc, fv, sv, kv, fe, se, ke, hxc, hsz2, ⟨h3, h4⟩, ⟨h5, h6, h7⟩, h8, h9, h10⟩ := hx
 obtain ⟨a1, c1, rfl, _, b1, _⟩ := h5.len
 obtain ⟨a2, c2, rfl, _, b2, _⟩ := h6.len
 obtain ⟨a3, c3, rfl, _, b3, _⟩ := h7.len
 have HA := Yq (fun (w2 : World) (g : Nat) (hB : Blk w2 g ec) => (EdAt.of h3.len h4.len (hxc ▸ hB)))
 have HLo := Yq h3.len; have HLn := Yq h4.len
 have Hvro := Yq h3; have Hvrn := Yq h4
 have HX1 := Yq (And.intro h5 h8); have HX2 := Yq (And.intro h6 h9); have HX3 := Yq (And.intro h7 h10)
 have Hm1 := Yq h8.len; have Hm2 := Yq h9.len; have Hm3 := Yq h10.len
 obtain ⟨ns1, hn1⟩ : ∃ z, z = fe.length := ⟨_, rfl⟩
 obtain ⟨ns2, hn2⟩ : ∃ z, z = se.length := ⟨_, rfl⟩
 obtain ⟨ns3, hn3⟩ : ∃ z, z = ke.length := ⟨_, rfl⟩
 rw [← Hm1.out, ← Hm2.out, ← Hm3.out, ← hn1, ← hn2, ← hn3] at hRES
 rw [← hn1, ← hn2, ← hn3] at HA
 rw [← hn1] at HX1; rw [← hn2] at HX2; rw [← hn3] at HX3
 have Hn1 := Yq hn1.symm; have Hn2 := Yq hn2.symm; have Hn3 := Yq hn3.symm
 have hns1 : ns1 ≤ 9223372036854775807 := by unfold maxLen at b1; omega
 have hns2 : ns2 ≤ 9223372036854775807 := by unfold maxLen at b2; omega
 have hns3 : ns3 ≤ 9223372036854775807 := by unfold maxLen at b3; omega
 have hsum : IntKind.i64.wrap ((ro.size : Int) + (rn.size : Int)) = (ro.size : Int) + (rn.size : Int) := IntWalk.i64_in _ (by omega)
 have HRES := Yq hRES
 have HNo := Yq (fun (w0 : World) (hb : Below w.heap.size w w0) => rnothing_any o oc w0 Hvo.out (Hvro.out.mono (below_le hb)))
 have HNn := Yq (fun (w0 : World) (hb : Below w.heap.size w w0) => rnothing_any n nc w0 Hvn.out (Hvrn.out.mono (below_le hb)))
 clear hxc hsz2 h3 h4 h5 h6 h7 h8 h9 h10 b1 b2 b3 hn1 hn2 hn3 hsz hRES hem hev
 go_enter Tryz.func20, Tryz.ntmps20
 have HO := Own.nil w
 go_upto_region 1 with (first
  | ((with_reducible refine atOp (.box 52 _) ?_); refine wpList_box_own rfl 52 _ rfl ec rfl HO ?_; clear HO; intro w1 g1 HO)
  | fail)
 obtain ⟨r1, r8, k0, k15, k16, k17, k18, k19, k20⟩ := HA.out _ _ (HO.at 0 rfl)
 go_upto_region 3 with fail
 go_simp
 go_cut [80] from 19 to 80 (fun s80 wx => s80 = .bool (!bareE 0 o n ns1 r ro rn ns2 ns3) ∧ Hid (Own w [(g1, ec)] wx))
 case first =>
  obtain ⟨po, hpo⟩ : ∃ z, z = noneV o := ⟨_, rfl⟩
  obtain ⟨pn, hpn⟩ : ∃ z, z = noneV n := ⟨_, rfl⟩
  rw [← hpo] at HNo
  rw [← hpn] at HNn
  have Hpo := Yq hpo.symm; have Hpn := Yq hpn.symm
  clear hpo hpn HRES
  go_wp2_with (first
  | ((with_reducible refine atOp (.load 40 _) ?_); refine wpList_load_seg rfl 40 _ rfl _ _ rfl _ _ r1 Tryz.underlying40 rfl (iC infoRV HLo) ?_)
  | ((with_reducible refine atOp (.load 40 _) ?_); refine wpList_load_seg rfl 40 _ rfl _ _ rfl _ _ r8 Tryz.underlying40 rfl (iC infoRV HLn) ?_)
  | (go_at_call 42; (with_reducible refine (HNo.out _ HO.below).mono ?_); rintro e w7 ⟨rfl, hbc⟩; replace HO := HO.call hbc; clear hbc r1 r8 k0 k15 k16 k17 k18 k19 k20; obtain ⟨r1, r8, k0, k15, k16, k17, k18, k19, k20⟩ := HA.out _ _ (HO.at 0 rfl))
  | (go_at_call 42; (with_reducible refine (HNn.out _ HO.below).mono ?_); rintro e w7 ⟨rfl, hbc⟩; replace HO := HO.call hbc; clear hbc r1 r8 k0 k15 k16 k17 k18 k19 k20; obtain ⟨r1, r8, k0, k15, k16, k17, k18, k19, k20⟩ := HA.out _ _ (HO.at 0 rfl))
  | fail)
  all_goals
   go_meet
   refine ⟨congrArg Value.bool ?_, Yq HO⟩
   unfold bareE
   rw [Hpo.out, Hpn.out]
   first | (simp [Val.z0, *]; done) | (have e : 0 < ro.size + rn.size := (by omega); rw [Val.z0 (ro.size + rn.size), decide_eq_true e]; simp [Val.z0, *]; done) | (have e : ¬ 0 < ro.size + rn.size := (by omega); rw [Val.z0 (ro.size + rn.size), decide_eq_false e]; simp [Val.z0, *]; done)
 obtain ⟨rfl, HO1⟩ := hcut
 clear hsum r1 r8 k0 k15 k16 k17 k18 k19 k20 HO HNo HNn
 replace HO := HO1.out
 clear HO1
 obtain ⟨r1, r8, k0, k15, k16, k17, k18, k19, k20⟩ := HA.out _ _ (HO.at 0 rfl)
 cases hb : bareE 0 o n ns1 r ro rn ns2 ns3 with
 | false =>
  have hR : RES = false := by have h := HRES.out; simpa [hb] using h
  go_wp2_with fail
  go_ret
  exact ⟨ret_bool (by first | rfl | exact hR.symm), HO.below⟩
 | true =>
  have hR : RES = true := by have h := HRES.out; simpa [hb] using h
  go_wp2_with fail
  go_ret
  exact ⟨ret_bool (by first | rfl | exact hR.symm), HO.below⟩
theorem rr21_1 (N : Nat) (ih : RR21At N) (o n : V) (f : List (Int × E)) (r : Bool) (ro rn : ByteArray) (s : List (Int × Int × V × E)) (ks : List (V × E)) (ec : List Value) (w : World) (hsz : SizeOf.sizeOf (E.mk 1 o n f r ro rn s ks) < N + 1) (hem : esm (.mk 1 o n f r ro rn s ks)) (hev : Val.evsm (.mk 1 o n f r ro rn s ks)) (hx : ER (frag w) (.mk 1 o n f r ro rn s ks) ec) :
  Calls Tryz.prog 20 #[.agg ec.toArray] w fun e w' => e = .returned (.bool (eright (.mk 1 o n f r ro rn s ks))) ∧ Below w.heap.size w w' := by
 obtain ⟨RES, hRES⟩ : ∃ R, R = eright (.mk 1 o n f r ro rn s ks) := ⟨_, rfl⟩
 rw [← hRES]
 rw [Val.eright_1] at hRES
 have HS1 : Hid (∀ e ∈ f, SizeOf.sizeOf e.2 < N) := fun e h => by have := Val.esize_field (x := .mk 1 o n f r ro rn s ks) (m := e.1) (e := e.2) h; omega
 have HS2 : Hid (∀ e ∈ s, SizeOf.sizeOf e.2.2.2 < N) := fun e h => by have := Val.esize_step (x := .mk 1 o n f r ro rn s ks) (k := e.1) (c := e.2.1) (v := e.2.2.1) (e := e.2.2.2) h; omega
 have HS3 : Hid (∀ e ∈ ks, SizeOf.sizeOf e.2 < N) := fun e h => by have := Val.esize_key (x := .mk 1 o n f r ro rn s ks) (k := e.1) (e := e.2) h; omega
 rw [esm] at hem
 rw [Val.evsm] at hev
 have HM1 := Yq (Val.esmF_at hem.2.1); have HM2 := Yq (Val.esmS_at hem.2.2.1); have HM3 := Yq (Val.esmK_at hem.2.2.2)
 have HV1 := Yq (Val.evsmF_at hev.2.2.1); have HV2 := Yq (Val.evsmS_at hev.2.2.2.1); have HV3 := Yq (Val.evsmK_at hev.2.2.2.2)
 have Hvo := Yq hev.1; have Hvn := Yq hev.2.1
 have hro := hem.1.1; have hrn := hem.1.2
 rw [ER] at hx
 obtain ⟨oc, nc, fv, sv, kv, fe, se, ke, hxc, hsz2, ⟨h3, h4⟩, ⟨h5, h6, h7⟩, h8, h9, h10⟩ := hx
 obtain ⟨a1, c1, rfl, _, b1, _⟩ := h5.len
 obtain ⟨a2, c2, rfl, _, b2, _⟩ := h6.len
 obtain ⟨a3, c3, rfl, _, b3, _⟩ := h7.len
 have HA := Yq (fun (w2 : World) (g : Nat) (hB : Blk w2 g ec) => (EdAt.of h3.len h4.len (hxc ▸ hB)))
 have HLo := Yq h3.len; have HLn := Yq h4.len
 have Hvro := Yq h3; have Hvrn := Yq h4
 have HX1 := Yq (And.intro h5 h8); have HX2 := Yq (And.intro h6 h9); have HX3 := Yq (And.intro h7 h10)
 have Hm1 := Yq h8.len; have Hm2 := Yq h9.len; have Hm3 := Yq h10.len
 obtain ⟨ns1, hn1⟩ : ∃ z, z = fe.length := ⟨_, rfl⟩
 obtain ⟨ns2, hn2⟩ : ∃ z, z = se.length := ⟨_, rfl⟩
 obtain ⟨ns3, hn3⟩ : ∃ z, z = ke.length := ⟨_, rfl⟩
 rw [← Hm1.out, ← Hm2.out, ← Hm3.out, ← hn1, ← hn2, ← hn3] at hRES
 rw [← hn1, ← hn2, ← hn3] at HA
 rw [← hn1] at HX1; rw [← hn2] at HX2; rw [← hn3] at HX3
 have Hn1 := Yq hn1.symm; have Hn2 := Yq hn2.symm; have Hn3 := Yq hn3.symm
 have hns1 : ns1 ≤ 9223372036854775807 := by unfold maxLen at b1; omega
 have hns2 : ns2 ≤ 9223372036854775807 := by unfold maxLen at b2; omega
 have hns3 : ns3 ≤ 9223372036854775807 := by unfold maxLen at b3; omega
 have hsum : IntKind.i64.wrap ((ro.size : Int) + (rn.size : Int)) = (ro.size : Int) + (rn.size : Int) := IntWalk.i64_in _ (by omega)
 have HRES := Yq hRES
 have HNo := Yq (fun (w0 : World) (hb : Below w.heap.size w w0) => rnothing_any o oc w0 Hvo.out (Hvro.out.mono (below_le hb)))
 have HNn := Yq (fun (w0 : World) (hb : Below w.heap.size w w0) => rnothing_any n nc w0 Hvn.out (Hvrn.out.mono (below_le hb)))
 clear hxc hsz2 h3 h4 h5 h6 h7 h8 h9 h10 b1 b2 b3 hn1 hn2 hn3 hsz hRES hem hev
 go_enter Tryz.func20, Tryz.ntmps20
 have HO := Own.nil w
 go_upto_region 1 with (first
  | ((with_reducible refine atOp (.box 52 _) ?_); refine wpList_box_own rfl 52 _ rfl ec rfl HO ?_; clear HO; intro w1 g1 HO)
  | fail)
 obtain ⟨r1, r8, k0, k15, k16, k17, k18, k19, k20⟩ := HA.out _ _ (HO.at 0 rfl)
 go_upto_region 3 with fail
 go_simp
 go_cut [80] from 19 to 80 (fun s80 wx => s80 = .bool (!bareE 1 o n ns1 r ro rn ns2 ns3) ∧ Hid (Own w [(g1, ec)] wx))
 case first =>
  obtain ⟨po, hpo⟩ : ∃ z, z = noneV o := ⟨_, rfl⟩
  obtain ⟨pn, hpn⟩ : ∃ z, z = noneV n := ⟨_, rfl⟩
  rw [← hpo] at HNo
  rw [← hpn] at HNn
  have Hpo := Yq hpo.symm; have Hpn := Yq hpn.symm
  clear hpo hpn HRES
  go_wp2_with (first
  | ((with_reducible refine atOp (.load 40 _) ?_); refine wpList_load_seg rfl 40 _ rfl _ _ rfl _ _ r1 Tryz.underlying40 rfl (iC infoRV HLo) ?_)
  | ((with_reducible refine atOp (.load 40 _) ?_); refine wpList_load_seg rfl 40 _ rfl _ _ rfl _ _ r8 Tryz.underlying40 rfl (iC infoRV HLn) ?_)
  | (go_at_call 42; (with_reducible refine (HNo.out _ HO.below).mono ?_); rintro e w7 ⟨rfl, hbc⟩; replace HO := HO.call hbc; clear hbc r1 r8 k0 k15 k16 k17 k18 k19 k20; obtain ⟨r1, r8, k0, k15, k16, k17, k18, k19, k20⟩ := HA.out _ _ (HO.at 0 rfl))
  | (go_at_call 42; (with_reducible refine (HNn.out _ HO.below).mono ?_); rintro e w7 ⟨rfl, hbc⟩; replace HO := HO.call hbc; clear hbc r1 r8 k0 k15 k16 k17 k18 k19 k20; obtain ⟨r1, r8, k0, k15, k16, k17, k18, k19, k20⟩ := HA.out _ _ (HO.at 0 rfl))
  | fail)
  all_goals
   go_meet
   refine ⟨congrArg Value.bool ?_, Yq HO⟩
   unfold bareE
   rw [Hpo.out, Hpn.out]
   first | (simp [Val.z0, *]; done) | (have e : 0 < ro.size + rn.size := (by omega); rw [Val.z0 (ro.size + rn.size), decide_eq_true e]; simp [Val.z0, *]; done) | (have e : ¬ 0 < ro.size + rn.size := (by omega); rw [Val.z0 (ro.size + rn.size), decide_eq_false e]; simp [Val.z0, *]; done)
 obtain ⟨rfl, HO1⟩ := hcut
 clear hsum r1 r8 k0 k15 k16 k17 k18 k19 k20 HO HNo HNn
 replace HO := HO1.out
 clear HO1
 obtain ⟨r1, r8, k0, k15, k16, k17, k18, k19, k20⟩ := HA.out _ _ (HO.at 0 rfl)
 cases hb : bareE 1 o n ns1 r ro rn ns2 ns3 with
 | false =>
  have hR : RES = false := by have h := HRES.out; simpa [hb] using h
  go_wp2_with fail
  go_ret
  exact ⟨ret_bool (by first | rfl | exact hR.symm), HO.below⟩
 | true =>
  have HRo := Yq (fun (w0 : World) (hb : Below w.heap.size w w0) => rright_any o oc w0 Hvo.out (Hvro.out.mono (below_le hb)))
  have HRn := Yq (fun (w0 : World) (hb : Below w.heap.size w w0) => rright_any n nc w0 Hvn.out (Hvrn.out.mono (below_le hb)))
  have HSm := Yq (fun (w0 : World) (hb : Below w.heap.size w w0) => rsame_any o n oc nc w0 (Hvro.out.mono (below_le hb)) (Hvrn.out.mono (below_le hb)))
  have HR2 := HRES.out
  simp only [hb, Bool.true_and] at HR2
  clear HRES hb
  generalize right o = pa at *
  generalize right n = pb at *
  generalize decide (cmp o n = 0) = pc at *
  have HR3 := Yq HR2; clear HR2
  go_wp2_with (first
   | ((with_reducible refine atOp (.load 40 _) ?_); refine wpList_load_seg rfl 40 _ rfl _ _ rfl _ _ r1 Tryz.underlying40 rfl (iC infoRV HLo) ?_)
   | ((with_reducible refine atOp (.load 40 _) ?_); refine wpList_load_seg rfl 40 _ rfl _ _ rfl _ _ r8 Tryz.underlying40 rfl (iC infoRV HLn) ?_)
   | (go_at_call 21; (with_reducible refine (HRo.out _ HO.below).mono ?_); rintro e w7 ⟨rfl, hbc⟩; replace HO := HO.call hbc; clear hbc r1 r8 k0 k15 k16 k17 k18 k19 k20; obtain ⟨r1, r8, k0, k15, k16, k17, k18, k19, k20⟩ := HA.out _ _ (HO.at 0 rfl))
   | (go_at_call 21; (with_reducible refine (HRn.out _ HO.below).mono ?_); rintro e w7 ⟨rfl, hbc⟩; replace HO := HO.call hbc; clear hbc r1 r8 k0 k15 k16 k17 k18 k19 k20; obtain ⟨r1, r8, k0, k15, k16, k17, k18, k19, k20⟩ := HA.out _ _ (HO.at 0 rfl))
   | (go_at_call 12; (with_reducible refine (HSm.out _ HO.below).mono ?_); rintro e w7 ⟨rfl, hbc⟩; replace HO := HO.call hbc; clear hbc r1 r8 k0 k15 k16 k17 k18 k19 k20; obtain ⟨r1, r8, k0, k15, k16, k17, k18, k19, k20⟩ := HA.out _ _ (HO.at 0 rfl))
   | fail)
  all_goals
   go_ret
   exact ⟨ret_bool (by first | rfl | (have h := HR3.out; simp_all; done)), HO.below⟩
end Go.Proofs.YtebekgdjknenlaaGreatDoor
