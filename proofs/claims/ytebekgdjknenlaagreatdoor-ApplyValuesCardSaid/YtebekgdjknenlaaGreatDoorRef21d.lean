/- redlineref21.same, Right, walked: Row, and all. -/
import Derived.Test.YtebekgdjknenlaaGreatDoorRef21c
set_option maxRecDepth 100000
set_option maxHeartbeats 16000000
set_option linter.unusedVariables false
set_option linter.unusedSimpArgs false
namespace Go.Proofs.YtebekgdjknenlaaGreatDoor
open Go.RowKit
open Val (V E v0 right rightF rightL rightP partB cmp noneV bareE eright efields esteps ekeys esm esmF esmS esmK)
theorem infoRES : (Tryz.prog.info? 94).map (·.size) = some 30 := by kernel_rfl
theorem zeroRES : (Tryz.prog.info? 94).map (·.zero) = some (some (.agg (Value.int .i64 0 :: .int .i64 0 :: (zV ++ zE)).toArray)) := by kernel_rfl
theorem sizeRES (w : World) : (Go.sizeOf (Tryz.prog.elem 49)).run Tryz.prog w = .ok 30 w := by kernel_rfl
namespace Val
def sameE (e : E) : Bool := decide (e.kind = 0) && eright e
theorem sameE_eq (e : E) : (decide (e.kind = 0) && e.bare) = sameE e := by
 obtain ⟨k, o, n, f, r, ro, rn, s, ks⟩ := e
 unfold sameE E.bare E.kind
 by_cases h : k = 0
 ·subst h; rw [eright_0]
 ·simp [h]
def lastSt (f : List (Int × Int × V × E)) (k : Nat) : Int := if k = 0 then 0 else ((f[k - 1]?).map (·.1)).getD 0
theorem lastSt_succ {f : List (Int × Int × V × E)} {k : Nat} (h : k < f.length) : lastSt f (k + 1) = f[k].1 := by simp [lastSt, h]
def stepQ (k c : Int) (nv pv sm re : Bool) (ek : Int) : Bool :=
 if k = 1 then decide (1 ≤ c) && (decide (c ≤ 1048576) && (nv && sm)) else if k = 2 then decide (c = 0) && (pv && sm) else if k = 3 then decide (c = 0) && (pv && sm) else if k = 4 then decide (c = 0) && (nv && (decide (ek ≠ 0) && re)) else false
theorem stepQ_eq (k c : Int) (v : V) (e : E) : stepRight k c v e = stepQ k c (noneV v) (partB v) (sameE e) (eright e) e.kind := by
 unfold stepRight stepQ
 rw [sameE_eq]
 by_cases h1 : k = 1
 ·rw [if_pos h1, if_pos h1]
  by_cases h : 1 ≤ c <;> by_cases h' : c ≤ 1048576 <;> simp [h, h']
 ·rw [if_neg h1, if_neg h1]
  by_cases h2 : k = 2
  ·rw [if_pos (.inl h2), if_pos h2]
  ·rw [if_neg h2]
   by_cases h3 : k = 3
   ·rw [if_pos (.inr h3), if_pos h3]
   ·rw [if_neg (by simp [h2, h3]), if_neg h3]; rfl
theorem stepQ_1 (c : Int) (nv pv sm re : Bool) (ek : Int) : stepQ 1 c nv pv sm re ek = (decide (1 ≤ c) && (decide (c ≤ 1048576) && (nv && sm))) := rfl
theorem stepQ_2 (c : Int) (nv pv sm re : Bool) (ek : Int) : stepQ 2 c nv pv sm re ek = (decide (c = 0) && (pv && sm)) := rfl
theorem stepQ_3 (c : Int) (nv pv sm re : Bool) (ek : Int) : stepQ 3 c nv pv sm re ek = (decide (c = 0) && (pv && sm)) := rfl
theorem stepQ_4 (c : Int) (nv pv sm re : Bool) (ek : Int) : stepQ 4 c nv pv sm re ek = (decide (c = 0) && (nv && (decide (ek ≠ 0) && re))) := rfl
theorem stepQ_0 {k c : Int} {nv pv sm re : Bool} {ek : Int} (h1 : ¬ k = 1) (h2 : ¬ k = 2) (h3 : ¬ k = 3) (h4 : ¬ k = 4) : stepQ k c nv pv sm re ek = false := by unfold stepQ; rw [if_neg h1, if_neg h2, if_neg h3, if_neg h4]
theorem esteps_next {f : List (Int × Int × V × E)} {k : Nat} {m : Int} {ch : Bool} (h : k < f.length) : esteps m ch (f.drop k) = (stepQ f[k].1 f[k].2.1 (noneV f[k].2.2.1) (partB f[k].2.2.1) (sameE f[k].2.2.2) (eright f[k].2.2.2) f[k].2.2.2.kind && (!(decide (m = 1 ∧ f[k].1 = 1)) && (!(decide (m = 3 ∧ f[k].1 = 2)) && esteps f[k].1 (ch || decide (f[k].1 ≠ 1)) (f.drop (k + 1))))) := by
 rw [List.drop_eq_getElem_cons h]
 obtain ⟨a, b, c, d⟩ := f[k]
 rw [esteps_cons, stepQ_eq]
 simp only [Bool.and_assoc]
theorem eright_x {x : E} (h : ¬ (0 ≤ x.kind ∧ x.kind ≤ 4)) : eright x = false := by
 obtain ⟨k, o, n, f, r, ro, rn, s, ks⟩ := x
 have h : ¬ (0 ≤ k ∧ k ≤ 4) := h
 rw [eright, if_neg (by omega), if_neg (by omega), if_neg (by omega), if_neg (by omega), if_neg (by omega), Bool.and_false]
end Val
theorem rsame21_at (N : Nat) (ih : RR21At N) (x : E) (xc : List Value) (w : World) (hs : SizeOf.sizeOf x < N) (hm : esm x) (hev : Val.evsm x) (hx : ER (frag w) x xc) :
  Calls Tryz.prog 43 #[.agg xc.toArray] w fun e w' => e = .returned (.bool (Val.sameE x)) ∧ Below w.heap.size w w' := by
 have HR := Yq (fun (w0 : World) (hb : Below w.heap.size w w0) => ih x xc w0 hs hm hev (hx.mono (below_le hb)))
 have HK0 := Yq hx.k0; have HLx := Yq hx.shape.len
 have hpb : Val.sameE x = (decide (x.kind = 0) && eright x) := rfl
 rw [hpb]
 generalize eright x = rx at *
 generalize x.kind = kd at *
 clear hpb hx
 go_enter Tryz.func43, Tryz.ntmps43
 have HO := Own.nil w
 go_upto_region 1 with (first
 | ((with_reducible refine atOp (.box 52 _) ?_); refine wpList_box_own rfl 52 _ rfl xc rfl HO ?_; clear HO; intro w1 g1 HO)
 | fail)
 have q0 := (HO.at 0 rfl).cell HK0.out
 have hv := (HO.at 0 rfl).whole
 by_cases h0 : kd = 0
 ·subst h0
  go_wp2_with (first
  | ((with_reducible refine atOp (.load 52 _) ?_); refine wpList_load_seg rfl 52 _ rfl _ _ rfl _ _ hv Tryz.underlying52 rfl (iC infoRE HLx) ?_)
  | (go_at_call 20; (with_reducible refine (HR.out _ HO.below).mono ?_); rintro e w7 ⟨rfl, hbc⟩)
  | fail)
  go_ret
  exact ⟨ret_bool (by simp), (HO.call hbc).below⟩
 ·skip
  have e0 : (kd == 0) = false := by simpa using h0
  have f0 : decide (kd = 0) = false := by simpa using h0
  go_wp2_with fail
  go_ret
  exact ⟨ret_bool (by rw [decide_eq_false h0, Bool.false_and]), HO.below⟩
theorem rr21_3 (N : Nat) (ih : RR21At N) (o n : V) (f : List (Int × E)) (r : Bool) (ro rn : ByteArray) (s : List (Int × Int × V × E)) (ks : List (V × E)) (ec : List Value) (w : World) (hsz : SizeOf.sizeOf (E.mk 3 o n f r ro rn s ks) < N + 1) (hem : esm (.mk 3 o n f r ro rn s ks)) (hev : Val.evsm (.mk 3 o n f r ro rn s ks)) (hx : ER (frag w) (.mk 3 o n f r ro rn s ks) ec) :
  Calls Tryz.prog 20 #[.agg ec.toArray] w fun e w' => e = .returned (.bool (eright (.mk 3 o n f r ro rn s ks))) ∧ Below w.heap.size w w' := by
 obtain ⟨RES, hRES⟩ : ∃ R, R = eright (.mk 3 o n f r ro rn s ks) := ⟨_, rfl⟩
 rw [← hRES]
 rw [Val.eright_3] at hRES
 have HS1 : Hid (∀ e ∈ f, SizeOf.sizeOf e.2 < N) := fun e h => by have := Val.esize_field (x := .mk 3 o n f r ro rn s ks) (m := e.1) (e := e.2) h; omega
 have HS2 : Hid (∀ e ∈ s, SizeOf.sizeOf e.2.2.2 < N) := fun e h => by have := Val.esize_step (x := .mk 3 o n f r ro rn s ks) (k := e.1) (c := e.2.1) (v := e.2.2.1) (e := e.2.2.2) h; omega
 have HS3 : Hid (∀ e ∈ ks, SizeOf.sizeOf e.2 < N) := fun e h => by have := Val.esize_key (x := .mk 3 o n f r ro rn s ks) (k := e.1) (e := e.2) h; omega
 rw [esm] at hem
 rw [Val.evsm] at hev
 have HM1 := Yq (Val.esmF_at hem.2.1); have HM2 := Yq (Val.esmS_at hem.2.2.1); have HM3 := Yq (Val.esmK_at hem.2.2.2)
 have HV1 := Yq (Val.evsmF_at hev.2.2.1); have HV2 := Yq (Val.evsmS_at hev.2.2.2.1); have HV3 := Yq (Val.evsmK_at hev.2.2.2.2)
 have Hvo := Yq hev.1; have Hvn := Yq hev.2.1
 have hro := hem.1.1; have hrn := hem.1.2
 rw [ER] at hx
 obtain ⟨oc, nc, fv, sv, kv, fe, se, ke, hxc, hsz2, ⟨h3, h4⟩, ⟨h5, h6, h7⟩, h8, h9, h10⟩ := hx
 obtain ⟨a1, c1, rfl, _, b1, _⟩ := h5.len
 obtain ⟨a2, c2, rfl, _, b2, _⟩ := h6.len
 obtain ⟨a3, c3, rfl, _, b3, _⟩ := h7.len
 have HA := Yq (fun (w2 : World) (g : Nat) (hB : Blk w2 g ec) => (EdAt.of h3.len h4.len (hxc ▸ hB)))
 have HLo := Yq h3.len; have HLn := Yq h4.len
 have Hvro := Yq h3; have Hvrn := Yq h4
 have HX1 := Yq (And.intro h5 h8); have HX2 := Yq (And.intro h6 h9); have HX3 := Yq (And.intro h7 h10)
 have Hm1 := Yq h8.len; have Hm2 := Yq h9.len; have Hm3 := Yq h10.len
 obtain ⟨ns1, hn1⟩ : ∃ z, z = fe.length := ⟨_, rfl⟩
 obtain ⟨ns2, hn2⟩ : ∃ z, z = se.length := ⟨_, rfl⟩
 obtain ⟨ns3, hn3⟩ : ∃ z, z = ke.length := ⟨_, rfl⟩
 rw [← Hm1.out, ← Hm2.out, ← Hm3.out, ← hn1, ← hn2, ← hn3] at hRES
 rw [← hn1, ← hn2, ← hn3] at HA
 rw [← hn1] at HX1; rw [← hn2] at HX2; rw [← hn3] at HX3
 have Hn1 := Yq hn1.symm; have Hn2 := Yq hn2.symm; have Hn3 := Yq hn3.symm
 have hns1 : ns1 ≤ 9223372036854775807 := by unfold maxLen at b1; omega
 have hns2 : ns2 ≤ 9223372036854775807 := by unfold maxLen at b2; omega
 have hns3 : ns3 ≤ 9223372036854775807 := by unfold maxLen at b3; omega
 have hsum : IntKind.i64.wrap ((ro.size : Int) + (rn.size : Int)) = (ro.size : Int) + (rn.size : Int) := IntWalk.i64_in _ (by omega)
 have HRES := Yq hRES
 have HNo := Yq (fun (w0 : World) (hb : Below w.heap.size w w0) => rnothing_any o oc w0 Hvo.out (Hvro.out.mono (below_le hb)))
 have HNn := Yq (fun (w0 : World) (hb : Below w.heap.size w w0) => rnothing_any n nc w0 Hvn.out (Hvrn.out.mono (below_le hb)))
 clear hxc hsz2 h3 h4 h5 h6 h7 h8 h9 h10 b1 b2 b3 hn1 hn2 hn3 hsz hRES hem hev
 go_enter Tryz.func20, Tryz.ntmps20
 have HO := Own.nil w
 go_upto_region 1 with (first
  | ((with_reducible refine atOp (.box 52 _) ?_); refine wpList_box_own rfl 52 _ rfl ec rfl HO ?_; clear HO; intro w1 g1 HO)
  | fail)
 obtain ⟨r1, r8, k0, k15, k16, k17, k18, k19, k20⟩ := HA.out _ _ (HO.at 0 rfl)
 go_upto_region 3 with fail
 go_simp
 go_cut [80] from 19 to 80 (fun s80 wx => s80 = .bool (!bareE 3 o n ns1 r ro rn ns2 ns3) ∧ Hid (Own w [(g1, ec)] wx))
 case first =>
  obtain ⟨po, hpo⟩ : ∃ z, z = noneV o := ⟨_, rfl⟩
  obtain ⟨pn, hpn⟩ : ∃ z, z = noneV n := ⟨_, rfl⟩
  rw [← hpo] at HNo
  rw [← hpn] at HNn
  have Hpo := Yq hpo.symm; have Hpn := Yq hpn.symm
  clear hpo hpn HRES
  go_wp2_with (first
  | ((with_reducible refine atOp (.load 40 _) ?_); refine wpList_load_seg rfl 40 _ rfl _ _ rfl _ _ r1 Tryz.underlying40 rfl (iC infoRV HLo) ?_)
  | ((with_reducible refine atOp (.load 40 _) ?_); refine wpList_load_seg rfl 40 _ rfl _ _ rfl _ _ r8 Tryz.underlying40 rfl (iC infoRV HLn) ?_)
  | (go_at_call 42; (with_reducible refine (HNo.out _ HO.below).mono ?_); rintro e w7 ⟨rfl, hbc⟩; replace HO := HO.call hbc; clear hbc r1 r8 k0 k15 k16 k17 k18 k19 k20; obtain ⟨r1, r8, k0, k15, k16, k17, k18, k19, k20⟩ := HA.out _ _ (HO.at 0 rfl))
  | (go_at_call 42; (with_reducible refine (HNn.out _ HO.below).mono ?_); rintro e w7 ⟨rfl, hbc⟩; replace HO := HO.call hbc; clear hbc r1 r8 k0 k15 k16 k17 k18 k19 k20; obtain ⟨r1, r8, k0, k15, k16, k17, k18, k19, k20⟩ := HA.out _ _ (HO.at 0 rfl))
  | fail)
  all_goals
   go_meet
   refine ⟨congrArg Value.bool ?_, Yq HO⟩
   unfold bareE
   rw [Hpo.out, Hpn.out]
   first | (simp [Val.z0, *]; done) | (have e : 0 < ro.size + rn.size := (by omega); rw [Val.z0 (ro.size + rn.size), decide_eq_true e]; simp [Val.z0, *]; done) | (have e : ¬ 0 < ro.size + rn.size := (by omega); rw [Val.z0 (ro.size + rn.size), decide_eq_false e]; simp [Val.z0, *]; done)
 obtain ⟨rfl, HO1⟩ := hcut
 clear hsum r1 r8 k0 k15 k16 k17 k18 k19 k20 HO HNo HNn
 replace HO := HO1.out
 clear HO1
 obtain ⟨r1, r8, k0, k15, k16, k17, k18, k19, k20⟩ := HA.out _ _ (HO.at 0 rfl)
 cases hb : bareE 3 o n ns1 r ro rn ns2 ns3 with
 | false =>
  have hR : RES = false := by have h := HRES.out; simpa [hb] using h
  go_wp2_with fail
  go_ret
  exact ⟨ret_bool (by first | rfl | exact hR.symm), HO.below⟩
 | true =>
  have HRF : Hid (RES = esteps 0 false s) := Yq (by have h := HRES.out; simpa only [hb, Bool.true_and] using h)
  have HO1 := Yq HO
  clear HRES hb HO
  go_wp2_with fail
  clear r1 r8 k0 k15 k16 k17 k18 k19 k20
  go_simp
  go_loopw [5, 175] (fun mv i wr => ∃ (k m : Nat), k ≤ ns2 ∧ m ≤ k ∧ mv = .int .i64 m ∧ i = .int .i64 k ∧ Hid (esteps 0 false s = esteps (Val.lastSt s k) (decide (0 < m)) (s.drop k)) ∧ Hid (Own w [(g1, ec)] wr)) (fun _ i _ => ns2 - (intOf i).toNat)
  case atStart => exact ⟨0, 0, Nat.zero_le _, Nat.zero_le _, rfl, rfl, Yq rfl, HO1⟩
  case round =>
   obtain ⟨k, m, hkn, hmk, rfl, rfl, HI, HO⟩ := hrel
   replace HO := HO.out
   by_cases hlt : k < ns2
   ·have hks : k < se.length := by rw [Hn2.out]; exact hlt
    have hkf : k < s.length := by rw [← Hm2.out, Hn2.out]; exact hlt
    obtain ⟨b0, o0, hb0, hidx, hcell⟩ := FlatC.at (n := ns2) (cap := c2) (a := a2) HX2.out.1 (by decide) (i := k) hks Tryz.underlying49 sizeRES
    have hr : wr.rangeAt b0 o0 se[k] := range_below hcell HO.below hb0
    obtain ⟨vc, exc, hx, rv, rx⟩ := HX2.out.2.at hkf hks
    rw [hx] at hr
    have HLv := Yq rv.len; have HLe := Yq rx.shape.len
    have HL8 : Hid ((Value.int .i64 s[k].1 :: .int .i64 s[k].2.1 :: (vc ++ exc)).length = 30) := by show _ = _; rw [List.length_cons, List.length_cons, List.length_append, rv.len, rx.shape.len]
    have H1 : Hid (∀ u ∈ Value.int .i64 s[k].1 :: .int .i64 s[k].2.1 :: (vc ++ exc), u.oneCell' = true) := fun u hu => by
     rcases List.mem_cons.1 hu with rfl | hu
     ·rfl
     rcases List.mem_cons.1 hu with rfl | hu
     ·rfl
     rcases List.mem_append.1 hu with hu | hu
     ·exact rv.ones u hu
     ·exact rx.shape.one u hu
    have HK0 : Hid ((Value.int .i64 s[k].1 :: .int .i64 s[k].2.1 :: (vc ++ exc))[0]? = some (.int .i64 s[k].1)) := Yq rfl
    have HK1 : Hid ((Value.int .i64 s[k].1 :: .int .i64 s[k].2.1 :: (vc ++ exc))[1]? = some (.int .i64 s[k].2.1)) := Yq rfl
    have HK9 : Hid ((Value.int .i64 s[k].1 :: .int .i64 s[k].2.1 :: (vc ++ exc))[9]? = some (.int .i64 s[k].2.2.2.kind)) := Yq (by
     show (vc ++ exc)[7]? = _
     rw [List.getElem?_append_right (by rw [rv.len]; decide), rv.len]; exact rx.k0)
    have HL9 : Hid ((Value.int .i64 s[k].1 :: .int .i64 s[k].2.1 :: vc).length = 9) := by show _ = _; rw [List.length_cons, List.length_cons, rv.len]
    have HNv := Yq (fun (w0 : World) (hb : Below w.heap.size w w0) => rnothing_any s[k].2.2.1 vc w0 (HV2.out _ (List.getElem_mem hkf)).1 (rv.mono (below_le hb)))
    have HPv2 := Yq (fun (w0 : World) (hb : Below w.heap.size w w0) => rpart21_any s[k].2.2.1 vc w0 (HV2.out _ (List.getElem_mem hkf)).1 (rv.mono (below_le hb)))
    have HSm := Yq (fun (w0 : World) (hb : Below w.heap.size w w0) => rsame21_at N ih s[k].2.2.2 exc w0 (HS2.out _ (List.getElem_mem hkf)) (HM2.out _ (List.getElem_mem hkf)) (HV2.out _ (List.getElem_mem hkf)).2 (rx.mono (below_le hb)))
    have HRx := Yq (fun (w0 : World) (hb : Below w.heap.size w w0) => ih s[k].2.2.2 exc w0 (HS2.out _ (List.getElem_mem hkf)) (HM2.out _ (List.getElem_mem hkf)) (HV2.out _ (List.getElem_mem hkf)).2 (rx.mono (below_le hb)))
    have hnx := Val.esteps_next (m := Val.lastSt s k) (ch := decide (0 < m)) hkf
    have HLs := Yq (Val.lastSt_succ hkf)
    have HPv : Hid (∀ (j : Nat), k = j + 1 → ∃ b1 o1, b1 < w.heap.size ∧ (∀ w', (Instr.indexAt 49 (.slice a2 ns2 c2) (.int .i64 ((k : Int) - 1))).run Tryz.prog w' = .ok (.pointer (some ⟨b1, o1, none⟩)) w') ∧ w.cell? ⟨b1, o1, none⟩ = some (.int .i64 (Val.lastSt s k))) := fun j hj => by
     subst hj
     have hjs : j < se.length := by omega
     have hjf : j < s.length := by omega
     obtain ⟨b1, o1, hb1, hi1, hc1⟩ := FlatC.at (n := ns2) (cap := c2) (a := a2) HX2.out.1 (by decide) (i := j) hjs Tryz.underlying49 sizeRES
     obtain ⟨zv, zc, hz, rzv, rz⟩ := HX2.out.2.at hjf hjs
     refine ⟨b1, o1, hb1, ?_, ?_⟩
     ·rw [show (((j + 1 : Nat)) : Int) - 1 = (j : Int) by omega]; exact hi1
     ·rw [Val.lastSt_succ hjf]; exact hc1 0 _ (by rw [hz]; rfl)
    have Hl00 : Hid (k = 0 → Val.lastSt s k = 0) := Yq (fun h => by rw [h]; rfl)
    rw [hnx] at HI
    generalize hrest : esteps s[k].1 (decide (0 < m) || decide (s[k].1 ≠ 1)) (s.drop (k + 1)) = rest at HI
    have Hrest := Yq hrest.symm
    clear hcell hx rv rx hnx hrest hks
    generalize eright s[k].2.2.2 = re at *
    generalize Val.sameE s[k].2.2.2 = sm at *
    generalize noneV s[k].2.2.1 = nv at *
    generalize partB s[k].2.2.1 = pv at *
    generalize s[k].2.2.2.kind = ek at *
    generalize s[k].2.1 = sc at *
    generalize s[k].1 = sk at *
    generalize hla : Val.lastSt s k = la at *
    clear hkf hla
    go_upto_region 23 with (first
   | ((with_reducible refine atOp (.load 94 _) ?_); refine wpList_load_seg rfl 94 _ rfl _ _ rfl _ _ hr Tryz.underlying94 rfl (iC infoRES HL8) ?_)
   | ((with_reducible refine atOp (.alloc 94) ?_); refine wpList_alloc_own rfl 94 rfl (.int .i64 0 :: .int .i64 0 :: (zV ++ zE)) zeroRES HO ?_; clear HO; intro w6 g7 HO)
   | ((with_reducible refine atOp (.store 94 _ _) ?_); refine wpList_store_own 0 rfl 94 _ _ rfl _ 0 (Value.int .i64 sk :: .int .i64 sc :: (vc ++ exc)) rfl rfl HO rfl (iC infoRES HL8) (by rw [HL8.out]; decide) H1.out (patch_whole' _ _ (by rw [HL8.out]; rfl)) ?_; clear HO hr hidx; intro w5 HO)
   | fail)
    go_simp
    have m0 := (HO.at 0 rfl).cell HK0.out
    have m1 := (HO.at 0 rfl).cell HK1.out
    have m9 := (HO.at 0 rfl).cell HK9.out
    have p2 := (HO.at 0 rfl).range (p := [.int .i64 sk, .int .i64 sc]) (q := vc) (r := exc) (by simp) rfl
    have p9 := (HO.at 0 rfl).range (p := .int .i64 sk :: .int .i64 sc :: vc) (q := exc) (r := []) (by simp) HL9.out
    have Hfl : Hid (esteps 0 false s = false → RES = false) := Yq (fun h => by rw [HRF.out, h])
    by_cases hk0 : k = 0
    ·obtain rfl : la = 0 := Hl00.out hk0
     have y2 : decide ((0 : Int) < (k : Int)) = false := decide_eq_false (by omega)
     have y1 : ¬ ((0 : Int) < (k : Int)) := by omega
     have y3 : decide (0 < k) = false := decide_eq_false (by omega)
     have y4 : ¬ (0 < k) := by omega
     replace hk0 := Yq hk0
     by_cases e1 : sk = 1
     ·as_aux_lemma =>
       subst e1
       rw [Val.stepQ_1] at HI
       go_wp2_with (first
        | ((with_reducible refine atOp (.load 40 _) ?_); refine wpList_load_seg rfl 40 _ rfl _ _ rfl _ _ p2 Tryz.underlying40 rfl (iC infoRV HLv) ?_)
        | ((with_reducible refine atOp (.load 52 _) ?_); refine wpList_load_seg rfl 52 _ rfl _ _ rfl _ _ p9 Tryz.underlying52 rfl (iC infoRE HLe) ?_)
        | (go_at_call 42; (with_reducible refine (HNv.out _ HO.below).mono ?_); rintro e w7 ⟨rfl, hbc⟩; replace HO := HO.call hbc; clear hbc m0 m1 m9 p2 p9; have m0 := (HO.at 0 rfl).cell HK0.out; have m1 := (HO.at 0 rfl).cell HK1.out; have m9 := (HO.at 0 rfl).cell HK9.out; have p2 := (HO.at 0 rfl).range (p := [.int .i64 1, .int .i64 sc]) (q := vc) (r := exc) (by simp) rfl; have p9 := (HO.at 0 rfl).range (p := .int .i64 1 :: .int .i64 sc :: vc) (q := exc) (r := []) (by simp) HL9.out; skip)
        | (go_at_call 43; (with_reducible refine (HSm.out _ HO.below).mono ?_); rintro e w7 ⟨rfl, hbc⟩; replace HO := HO.call hbc; clear hbc m0 m1 m9 p2 p9; have m0 := (HO.at 0 rfl).cell HK0.out; have m1 := (HO.at 0 rfl).cell HK1.out; have m9 := (HO.at 0 rfl).cell HK9.out; have p2 := (HO.at 0 rfl).range (p := [.int .i64 1, .int .i64 sc]) (q := vc) (r := exc) (by simp) rfl; have p9 := (HO.at 0 rfl).range (p := .int .i64 1 :: .int .i64 sc :: vc) (q := exc) (r := []) (by simp) HL9.out; skip)
        | fail)
       all_goals
        first
        | (go_ret
           exact ⟨ret_bool (by first | rfl | (refine (Hfl.out ?_).symm; rw [HI.out]; simp [*]; done) | (refine (Hfl.out ?_).symm; rw [HI.out, decide_eq_false (show ¬ 1 ≤ sc by omega)]; simp; done) | (refine (Hfl.out ?_).symm; rw [HI.out, decide_eq_false (show ¬ sc ≤ 1048576 by omega)]; simp; done) | (refine (Hfl.out ?_).symm; rw [HI.out]; simp_all; done)), HO.below⟩)
        | (go_roundw
           case rel => exact ⟨k + 1, m, by omega, by omega, by go_num, by go_num, Yq (by rw [HI.out, Hrest.out, HLs.out]; first | (simp [*]; done) | (simp_all; done)), Yq (HO.sub (.cons _ (List.Sublist.refl _)))⟩
           case measure => simp [intOf]; omega)
     by_cases e2 : sk = 2
     ·as_aux_lemma =>
       subst e2
       rw [Val.stepQ_2] at HI
       go_wp2_with (first
        | ((with_reducible refine atOp (.load 40 _) ?_); refine wpList_load_seg rfl 40 _ rfl _ _ rfl _ _ p2 Tryz.underlying40 rfl (iC infoRV HLv) ?_)
        | ((with_reducible refine atOp (.load 52 _) ?_); refine wpList_load_seg rfl 52 _ rfl _ _ rfl _ _ p9 Tryz.underlying52 rfl (iC infoRE HLe) ?_)
        | (go_at_call 44; (with_reducible refine (HPv2.out _ HO.below).mono ?_); rintro e w7 ⟨rfl, hbc⟩; replace HO := HO.call hbc; clear hbc m0 m1 m9 p2 p9; have m0 := (HO.at 0 rfl).cell HK0.out; have m1 := (HO.at 0 rfl).cell HK1.out; have m9 := (HO.at 0 rfl).cell HK9.out; have p2 := (HO.at 0 rfl).range (p := [.int .i64 2, .int .i64 sc]) (q := vc) (r := exc) (by simp) rfl; have p9 := (HO.at 0 rfl).range (p := .int .i64 2 :: .int .i64 sc :: vc) (q := exc) (r := []) (by simp) HL9.out; skip)
        | (go_at_call 43; (with_reducible refine (HSm.out _ HO.below).mono ?_); rintro e w7 ⟨rfl, hbc⟩; replace HO := HO.call hbc; clear hbc m0 m1 m9 p2 p9; have m0 := (HO.at 0 rfl).cell HK0.out; have m1 := (HO.at 0 rfl).cell HK1.out; have m9 := (HO.at 0 rfl).cell HK9.out; have p2 := (HO.at 0 rfl).range (p := [.int .i64 2, .int .i64 sc]) (q := vc) (r := exc) (by simp) rfl; have p9 := (HO.at 0 rfl).range (p := .int .i64 2 :: .int .i64 sc :: vc) (q := exc) (r := []) (by simp) HL9.out; skip)
        | fail)
       all_goals
        first
        | (go_ret
           exact ⟨ret_bool (by first | rfl | (refine (Hfl.out ?_).symm; rw [HI.out]; simp [*]; done) | (refine (Hfl.out ?_).symm; rw [HI.out, decide_eq_false (show ¬ 1 ≤ sc by omega)]; simp; done) | (refine (Hfl.out ?_).symm; rw [HI.out, decide_eq_false (show ¬ sc ≤ 1048576 by omega)]; simp; done) | (refine (Hfl.out ?_).symm; rw [HI.out]; simp_all; done)), HO.below⟩)
        | (go_roundw
           case rel => exact ⟨k + 1, m + 1, by omega, by omega, by go_num, by go_num, Yq (by rw [HI.out, Hrest.out, HLs.out]; first | (simp [*]; done) | (simp_all; done)), Yq (HO.sub (.cons _ (List.Sublist.refl _)))⟩
           case measure => simp [intOf]; omega)
     by_cases e3 : sk = 3
     ·as_aux_lemma =>
       subst e3
       rw [Val.stepQ_3] at HI
       go_wp2_with (first
        | ((with_reducible refine atOp (.load 40 _) ?_); refine wpList_load_seg rfl 40 _ rfl _ _ rfl _ _ p2 Tryz.underlying40 rfl (iC infoRV HLv) ?_)
        | ((with_reducible refine atOp (.load 52 _) ?_); refine wpList_load_seg rfl 52 _ rfl _ _ rfl _ _ p9 Tryz.underlying52 rfl (iC infoRE HLe) ?_)
        | (go_at_call 44; (with_reducible refine (HPv2.out _ HO.below).mono ?_); rintro e w7 ⟨rfl, hbc⟩; replace HO := HO.call hbc; clear hbc m0 m1 m9 p2 p9; have m0 := (HO.at 0 rfl).cell HK0.out; have m1 := (HO.at 0 rfl).cell HK1.out; have m9 := (HO.at 0 rfl).cell HK9.out; have p2 := (HO.at 0 rfl).range (p := [.int .i64 3, .int .i64 sc]) (q := vc) (r := exc) (by simp) rfl; have p9 := (HO.at 0 rfl).range (p := .int .i64 3 :: .int .i64 sc :: vc) (q := exc) (r := []) (by simp) HL9.out; skip)
        | (go_at_call 43; (with_reducible refine (HSm.out _ HO.below).mono ?_); rintro e w7 ⟨rfl, hbc⟩; replace HO := HO.call hbc; clear hbc m0 m1 m9 p2 p9; have m0 := (HO.at 0 rfl).cell HK0.out; have m1 := (HO.at 0 rfl).cell HK1.out; have m9 := (HO.at 0 rfl).cell HK9.out; have p2 := (HO.at 0 rfl).range (p := [.int .i64 3, .int .i64 sc]) (q := vc) (r := exc) (by simp) rfl; have p9 := (HO.at 0 rfl).range (p := .int .i64 3 :: .int .i64 sc :: vc) (q := exc) (r := []) (by simp) HL9.out; skip)
        | fail)
       all_goals
        first
        | (go_ret
           exact ⟨ret_bool (by first | rfl | (refine (Hfl.out ?_).symm; rw [HI.out]; simp [*]; done) | (refine (Hfl.out ?_).symm; rw [HI.out, decide_eq_false (show ¬ 1 ≤ sc by omega)]; simp; done) | (refine (Hfl.out ?_).symm; rw [HI.out, decide_eq_false (show ¬ sc ≤ 1048576 by omega)]; simp; done) | (refine (Hfl.out ?_).symm; rw [HI.out]; simp_all; done)), HO.below⟩)
        | (go_roundw
           case rel => exact ⟨k + 1, m + 1, by omega, by omega, by go_num, by go_num, Yq (by rw [HI.out, Hrest.out, HLs.out]; first | (simp [*]; done) | (simp_all; done)), Yq (HO.sub (.cons _ (List.Sublist.refl _)))⟩
           case measure => simp [intOf]; omega)
     by_cases e4 : sk = 4
     ·as_aux_lemma =>
       subst e4
       rw [Val.stepQ_4] at HI
       go_wp2_with (first
        | ((with_reducible refine atOp (.load 40 _) ?_); refine wpList_load_seg rfl 40 _ rfl _ _ rfl _ _ p2 Tryz.underlying40 rfl (iC infoRV HLv) ?_)
        | ((with_reducible refine atOp (.load 52 _) ?_); refine wpList_load_seg rfl 52 _ rfl _ _ rfl _ _ p9 Tryz.underlying52 rfl (iC infoRE HLe) ?_)
        | (go_at_call 42; (with_reducible refine (HNv.out _ HO.below).mono ?_); rintro e w7 ⟨rfl, hbc⟩; replace HO := HO.call hbc; clear hbc m0 m1 m9 p2 p9; have m0 := (HO.at 0 rfl).cell HK0.out; have m1 := (HO.at 0 rfl).cell HK1.out; have m9 := (HO.at 0 rfl).cell HK9.out; have p2 := (HO.at 0 rfl).range (p := [.int .i64 4, .int .i64 sc]) (q := vc) (r := exc) (by simp) rfl; have p9 := (HO.at 0 rfl).range (p := .int .i64 4 :: .int .i64 sc :: vc) (q := exc) (r := []) (by simp) HL9.out; skip)
        | (go_at_call 20; (with_reducible refine (HRx.out _ HO.below).mono ?_); rintro e w7 ⟨rfl, hbc⟩; replace HO := HO.call hbc; clear hbc m0 m1 m9 p2 p9; have m0 := (HO.at 0 rfl).cell HK0.out; have m1 := (HO.at 0 rfl).cell HK1.out; have m9 := (HO.at 0 rfl).cell HK9.out; have p2 := (HO.at 0 rfl).range (p := [.int .i64 4, .int .i64 sc]) (q := vc) (r := exc) (by simp) rfl; have p9 := (HO.at 0 rfl).range (p := .int .i64 4 :: .int .i64 sc :: vc) (q := exc) (r := []) (by simp) HL9.out; skip)
        | fail)
       all_goals
        first
        | (go_ret
           exact ⟨ret_bool (by first | rfl | (refine (Hfl.out ?_).symm; rw [HI.out]; simp [*]; done) | (refine (Hfl.out ?_).symm; rw [HI.out, decide_eq_false (show ¬ 1 ≤ sc by omega)]; simp; done) | (refine (Hfl.out ?_).symm; rw [HI.out, decide_eq_false (show ¬ sc ≤ 1048576 by omega)]; simp; done) | (refine (Hfl.out ?_).symm; rw [HI.out]; simp_all; done)), HO.below⟩)
        | (go_roundw
           case rel => exact ⟨k + 1, m + 1, by omega, by omega, by go_num, by go_num, Yq (by rw [HI.out, Hrest.out, HLs.out]; first | (simp [*]; done) | (simp_all; done)), Yq (HO.sub (.cons _ (List.Sublist.refl _)))⟩
           case measure => simp [intOf]; omega)
     rw [Val.stepQ_0 e1 e2 e3 e4] at HI
     have c1 : (sk == 1) = false := by simpa using e1
     have c2 : (sk == 2) = false := by simpa using e2
     have c3 : (sk == 3) = false := by simpa using e3
     have c4 : (sk == 4) = false := by simpa using e4
     go_wp2_with (first
      | ((with_reducible refine atOp (.load 40 _) ?_); refine wpList_load_seg rfl 40 _ rfl _ _ rfl _ _ p2 Tryz.underlying40 rfl (iC infoRV HLv) ?_)
      | ((with_reducible refine atOp (.load 52 _) ?_); refine wpList_load_seg rfl 52 _ rfl _ _ rfl _ _ p9 Tryz.underlying52 rfl (iC infoRE HLe) ?_)
      | fail)
     all_goals
      first
      | (go_ret
         exact ⟨ret_bool (by first | rfl | (refine (Hfl.out ?_).symm; rw [HI.out]; simp [*]; done) | (refine (Hfl.out ?_).symm; rw [HI.out, decide_eq_false (show ¬ 1 ≤ sc by omega)]; simp; done) | (refine (Hfl.out ?_).symm; rw [HI.out, decide_eq_false (show ¬ sc ≤ 1048576 by omega)]; simp; done) | (refine (Hfl.out ?_).symm; rw [HI.out]; simp_all; done)), HO.below⟩)
      | (go_roundw
         case rel => exact ⟨k + 1, m + 1, by omega, by omega, by go_num, by go_num, Yq (by rw [HI.out, Hrest.out, HLs.out]; first | (simp [*]; done) | (simp_all; done)), Yq (HO.sub (.cons _ (List.Sublist.refl _)))⟩
         case measure => simp [intOf]; omega)
    ·obtain ⟨j, hj⟩ : ∃ j, k = j + 1 := ⟨k - 1, by omega⟩
     obtain ⟨b1, o1, hb1, hidx1, hp1⟩ := HPv.out j hj
     obtain ⟨_, _, _, _, _, _, _, k19, _⟩ := HA.out _ _ (HO.at 1 rfl)
     have q7 := (HO.below.cell hb1).trans hp1
     have y1 : (0 : Int) < (k : Int) := by omega
     have y2 : decide ((0 : Int) < (k : Int)) = true := decide_eq_true y1
     have y4 : 0 < k := by omega
     have y3 : (k : Int) - 1 < (ns2 : Int) := by omega
     have hwr : IntKind.i64.wrap ((k : Int) - 1) = (k : Int) - 1 := IntWalk.i64_in _ (by omega)
     clear hj hk0
     by_cases e1 : sk = 1
     ·as_aux_lemma =>
       subst e1
       rw [Val.stepQ_1] at HI
       go_wp2_with (first
        | ((with_reducible refine atOp (.load 40 _) ?_); refine wpList_load_seg rfl 40 _ rfl _ _ rfl _ _ p2 Tryz.underlying40 rfl (iC infoRV HLv) ?_)
        | ((with_reducible refine atOp (.load 52 _) ?_); refine wpList_load_seg rfl 52 _ rfl _ _ rfl _ _ p9 Tryz.underlying52 rfl (iC infoRE HLe) ?_)
        | (go_at_call 42; (with_reducible refine (HNv.out _ HO.below).mono ?_); rintro e w7 ⟨rfl, hbc⟩; replace HO := HO.call hbc; clear hbc m0 m1 m9 p2 p9; have m0 := (HO.at 0 rfl).cell HK0.out; have m1 := (HO.at 0 rfl).cell HK1.out; have m9 := (HO.at 0 rfl).cell HK9.out; have p2 := (HO.at 0 rfl).range (p := [.int .i64 1, .int .i64 sc]) (q := vc) (r := exc) (by simp) rfl; have p9 := (HO.at 0 rfl).range (p := .int .i64 1 :: .int .i64 sc :: vc) (q := exc) (r := []) (by simp) HL9.out; clear k19 q7; obtain ⟨_, _, _, _, _, _, _, k19, _⟩ := HA.out _ _ (HO.at 1 rfl); have q7 := (HO.below.cell hb1).trans hp1)
        | (go_at_call 43; (with_reducible refine (HSm.out _ HO.below).mono ?_); rintro e w7 ⟨rfl, hbc⟩; replace HO := HO.call hbc; clear hbc m0 m1 m9 p2 p9; have m0 := (HO.at 0 rfl).cell HK0.out; have m1 := (HO.at 0 rfl).cell HK1.out; have m9 := (HO.at 0 rfl).cell HK9.out; have p2 := (HO.at 0 rfl).range (p := [.int .i64 1, .int .i64 sc]) (q := vc) (r := exc) (by simp) rfl; have p9 := (HO.at 0 rfl).range (p := .int .i64 1 :: .int .i64 sc :: vc) (q := exc) (r := []) (by simp) HL9.out; clear k19 q7; obtain ⟨_, _, _, _, _, _, _, k19, _⟩ := HA.out _ _ (HO.at 1 rfl); have q7 := (HO.below.cell hb1).trans hp1)
        | fail)
       all_goals
        first
        | (go_ret
           exact ⟨ret_bool (by first | rfl | (refine (Hfl.out ?_).symm; rw [HI.out]; simp [*]; done) | (refine (Hfl.out ?_).symm; rw [HI.out, decide_eq_false (show ¬ 1 ≤ sc by omega)]; simp; done) | (refine (Hfl.out ?_).symm; rw [HI.out, decide_eq_false (show ¬ sc ≤ 1048576 by omega)]; simp; done) | (refine (Hfl.out ?_).symm; rw [HI.out]; simp_all; done)), HO.below⟩)
        | (go_roundw
           case rel => exact ⟨k + 1, m, by omega, by omega, by go_num, by go_num, Yq (by rw [HI.out, Hrest.out, HLs.out]; first | (simp [*]; done) | (simp_all; done)), Yq (HO.sub (.cons _ (List.Sublist.refl _)))⟩
           case measure => simp [intOf]; omega)
     by_cases e2 : sk = 2
     ·as_aux_lemma =>
       subst e2
       rw [Val.stepQ_2] at HI
       go_wp2_with (first
        | ((with_reducible refine atOp (.load 40 _) ?_); refine wpList_load_seg rfl 40 _ rfl _ _ rfl _ _ p2 Tryz.underlying40 rfl (iC infoRV HLv) ?_)
        | ((with_reducible refine atOp (.load 52 _) ?_); refine wpList_load_seg rfl 52 _ rfl _ _ rfl _ _ p9 Tryz.underlying52 rfl (iC infoRE HLe) ?_)
        | (go_at_call 44; (with_reducible refine (HPv2.out _ HO.below).mono ?_); rintro e w7 ⟨rfl, hbc⟩; replace HO := HO.call hbc; clear hbc m0 m1 m9 p2 p9; have m0 := (HO.at 0 rfl).cell HK0.out; have m1 := (HO.at 0 rfl).cell HK1.out; have m9 := (HO.at 0 rfl).cell HK9.out; have p2 := (HO.at 0 rfl).range (p := [.int .i64 2, .int .i64 sc]) (q := vc) (r := exc) (by simp) rfl; have p9 := (HO.at 0 rfl).range (p := .int .i64 2 :: .int .i64 sc :: vc) (q := exc) (r := []) (by simp) HL9.out; clear k19 q7; obtain ⟨_, _, _, _, _, _, _, k19, _⟩ := HA.out _ _ (HO.at 1 rfl); have q7 := (HO.below.cell hb1).trans hp1)
        | (go_at_call 43; (with_reducible refine (HSm.out _ HO.below).mono ?_); rintro e w7 ⟨rfl, hbc⟩; replace HO := HO.call hbc; clear hbc m0 m1 m9 p2 p9; have m0 := (HO.at 0 rfl).cell HK0.out; have m1 := (HO.at 0 rfl).cell HK1.out; have m9 := (HO.at 0 rfl).cell HK9.out; have p2 := (HO.at 0 rfl).range (p := [.int .i64 2, .int .i64 sc]) (q := vc) (r := exc) (by simp) rfl; have p9 := (HO.at 0 rfl).range (p := .int .i64 2 :: .int .i64 sc :: vc) (q := exc) (r := []) (by simp) HL9.out; clear k19 q7; obtain ⟨_, _, _, _, _, _, _, k19, _⟩ := HA.out _ _ (HO.at 1 rfl); have q7 := (HO.below.cell hb1).trans hp1)
        | fail)
       all_goals
        first
        | (go_ret
           exact ⟨ret_bool (by first | rfl | (refine (Hfl.out ?_).symm; rw [HI.out]; simp [*]; done) | (refine (Hfl.out ?_).symm; rw [HI.out, decide_eq_false (show ¬ 1 ≤ sc by omega)]; simp; done) | (refine (Hfl.out ?_).symm; rw [HI.out, decide_eq_false (show ¬ sc ≤ 1048576 by omega)]; simp; done) | (refine (Hfl.out ?_).symm; rw [HI.out]; simp_all; done)), HO.below⟩)
        | (go_roundw
           case rel => exact ⟨k + 1, m + 1, by omega, by omega, by go_num, by go_num, Yq (by rw [HI.out, Hrest.out, HLs.out]; first | (simp [*]; done) | (simp_all; done)), Yq (HO.sub (.cons _ (List.Sublist.refl _)))⟩
           case measure => simp [intOf]; omega)
     by_cases e3 : sk = 3
     ·as_aux_lemma =>
       subst e3
       rw [Val.stepQ_3] at HI
       go_wp2_with (first
        | ((with_reducible refine atOp (.load 40 _) ?_); refine wpList_load_seg rfl 40 _ rfl _ _ rfl _ _ p2 Tryz.underlying40 rfl (iC infoRV HLv) ?_)
        | ((with_reducible refine atOp (.load 52 _) ?_); refine wpList_load_seg rfl 52 _ rfl _ _ rfl _ _ p9 Tryz.underlying52 rfl (iC infoRE HLe) ?_)
        | (go_at_call 44; (with_reducible refine (HPv2.out _ HO.below).mono ?_); rintro e w7 ⟨rfl, hbc⟩; replace HO := HO.call hbc; clear hbc m0 m1 m9 p2 p9; have m0 := (HO.at 0 rfl).cell HK0.out; have m1 := (HO.at 0 rfl).cell HK1.out; have m9 := (HO.at 0 rfl).cell HK9.out; have p2 := (HO.at 0 rfl).range (p := [.int .i64 3, .int .i64 sc]) (q := vc) (r := exc) (by simp) rfl; have p9 := (HO.at 0 rfl).range (p := .int .i64 3 :: .int .i64 sc :: vc) (q := exc) (r := []) (by simp) HL9.out; clear k19 q7; obtain ⟨_, _, _, _, _, _, _, k19, _⟩ := HA.out _ _ (HO.at 1 rfl); have q7 := (HO.below.cell hb1).trans hp1)
        | (go_at_call 43; (with_reducible refine (HSm.out _ HO.below).mono ?_); rintro e w7 ⟨rfl, hbc⟩; replace HO := HO.call hbc; clear hbc m0 m1 m9 p2 p9; have m0 := (HO.at 0 rfl).cell HK0.out; have m1 := (HO.at 0 rfl).cell HK1.out; have m9 := (HO.at 0 rfl).cell HK9.out; have p2 := (HO.at 0 rfl).range (p := [.int .i64 3, .int .i64 sc]) (q := vc) (r := exc) (by simp) rfl; have p9 := (HO.at 0 rfl).range (p := .int .i64 3 :: .int .i64 sc :: vc) (q := exc) (r := []) (by simp) HL9.out; clear k19 q7; obtain ⟨_, _, _, _, _, _, _, k19, _⟩ := HA.out _ _ (HO.at 1 rfl); have q7 := (HO.below.cell hb1).trans hp1)
        | fail)
       all_goals
        first
        | (go_ret
           exact ⟨ret_bool (by first | rfl | (refine (Hfl.out ?_).symm; rw [HI.out]; simp [*]; done) | (refine (Hfl.out ?_).symm; rw [HI.out, decide_eq_false (show ¬ 1 ≤ sc by omega)]; simp; done) | (refine (Hfl.out ?_).symm; rw [HI.out, decide_eq_false (show ¬ sc ≤ 1048576 by omega)]; simp; done) | (refine (Hfl.out ?_).symm; rw [HI.out]; simp_all; done)), HO.below⟩)
        | (go_roundw
           case rel => exact ⟨k + 1, m + 1, by omega, by omega, by go_num, by go_num, Yq (by rw [HI.out, Hrest.out, HLs.out]; first | (simp [*]; done) | (simp_all; done)), Yq (HO.sub (.cons _ (List.Sublist.refl _)))⟩
           case measure => simp [intOf]; omega)
     by_cases e4 : sk = 4
     ·as_aux_lemma =>
       subst e4
       rw [Val.stepQ_4] at HI
       go_wp2_with (first
        | ((with_reducible refine atOp (.load 40 _) ?_); refine wpList_load_seg rfl 40 _ rfl _ _ rfl _ _ p2 Tryz.underlying40 rfl (iC infoRV HLv) ?_)
        | ((with_reducible refine atOp (.load 52 _) ?_); refine wpList_load_seg rfl 52 _ rfl _ _ rfl _ _ p9 Tryz.underlying52 rfl (iC infoRE HLe) ?_)
        | (go_at_call 42; (with_reducible refine (HNv.out _ HO.below).mono ?_); rintro e w7 ⟨rfl, hbc⟩; replace HO := HO.call hbc; clear hbc m0 m1 m9 p2 p9; have m0 := (HO.at 0 rfl).cell HK0.out; have m1 := (HO.at 0 rfl).cell HK1.out; have m9 := (HO.at 0 rfl).cell HK9.out; have p2 := (HO.at 0 rfl).range (p := [.int .i64 4, .int .i64 sc]) (q := vc) (r := exc) (by simp) rfl; have p9 := (HO.at 0 rfl).range (p := .int .i64 4 :: .int .i64 sc :: vc) (q := exc) (r := []) (by simp) HL9.out; clear k19 q7; obtain ⟨_, _, _, _, _, _, _, k19, _⟩ := HA.out _ _ (HO.at 1 rfl); have q7 := (HO.below.cell hb1).trans hp1)
        | (go_at_call 20; (with_reducible refine (HRx.out _ HO.below).mono ?_); rintro e w7 ⟨rfl, hbc⟩; replace HO := HO.call hbc; clear hbc m0 m1 m9 p2 p9; have m0 := (HO.at 0 rfl).cell HK0.out; have m1 := (HO.at 0 rfl).cell HK1.out; have m9 := (HO.at 0 rfl).cell HK9.out; have p2 := (HO.at 0 rfl).range (p := [.int .i64 4, .int .i64 sc]) (q := vc) (r := exc) (by simp) rfl; have p9 := (HO.at 0 rfl).range (p := .int .i64 4 :: .int .i64 sc :: vc) (q := exc) (r := []) (by simp) HL9.out; clear k19 q7; obtain ⟨_, _, _, _, _, _, _, k19, _⟩ := HA.out _ _ (HO.at 1 rfl); have q7 := (HO.below.cell hb1).trans hp1)
        | fail)
       all_goals
        first
        | (go_ret
           exact ⟨ret_bool (by first | rfl | (refine (Hfl.out ?_).symm; rw [HI.out]; simp [*]; done) | (refine (Hfl.out ?_).symm; rw [HI.out, decide_eq_false (show ¬ 1 ≤ sc by omega)]; simp; done) | (refine (Hfl.out ?_).symm; rw [HI.out, decide_eq_false (show ¬ sc ≤ 1048576 by omega)]; simp; done) | (refine (Hfl.out ?_).symm; rw [HI.out]; simp_all; done)), HO.below⟩)
        | (go_roundw
           case rel => exact ⟨k + 1, m + 1, by omega, by omega, by go_num, by go_num, Yq (by rw [HI.out, Hrest.out, HLs.out]; first | (simp [*]; done) | (simp_all; done)), Yq (HO.sub (.cons _ (List.Sublist.refl _)))⟩
           case measure => simp [intOf]; omega)
     rw [Val.stepQ_0 e1 e2 e3 e4] at HI
     have c1 : (sk == 1) = false := by simpa using e1
     have c2 : (sk == 2) = false := by simpa using e2
     have c3 : (sk == 3) = false := by simpa using e3
     have c4 : (sk == 4) = false := by simpa using e4
     go_wp2_with (first
      | ((with_reducible refine atOp (.load 40 _) ?_); refine wpList_load_seg rfl 40 _ rfl _ _ rfl _ _ p2 Tryz.underlying40 rfl (iC infoRV HLv) ?_)
      | ((with_reducible refine atOp (.load 52 _) ?_); refine wpList_load_seg rfl 52 _ rfl _ _ rfl _ _ p9 Tryz.underlying52 rfl (iC infoRE HLe) ?_)
      | fail)
     all_goals
      first
      | (go_ret
         exact ⟨ret_bool (by first | rfl | (refine (Hfl.out ?_).symm; rw [HI.out]; simp [*]; done) | (refine (Hfl.out ?_).symm; rw [HI.out, decide_eq_false (show ¬ 1 ≤ sc by omega)]; simp; done) | (refine (Hfl.out ?_).symm; rw [HI.out, decide_eq_false (show ¬ sc ≤ 1048576 by omega)]; simp; done) | (refine (Hfl.out ?_).symm; rw [HI.out]; simp_all; done)), HO.below⟩)
      | (go_roundw
         case rel => exact ⟨k + 1, m + 1, by omega, by omega, by go_num, by go_num, Yq (by rw [HI.out, Hrest.out, HLs.out]; first | (simp [*]; done) | (simp_all; done)), Yq (HO.sub (.cons _ (List.Sublist.refl _)))⟩
         case measure => simp [intOf]; omega)
   ·obtain rfl : k = ns2 := by omega
    have HF3 : Hid (RES = decide (0 < m)) := Yq (by rw [HRF.out, HI.out, List.drop_of_length_le (by rw [← Hm2.out, Hn2.out]; exact Nat.le_refl _), esteps])
    clear HI hlt
    go_wp2_with fail
    all_goals
     go_ret
     exact ⟨ret_bool (by first | rfl | exact HF3.out.symm | (rw [HF3.out]; simp [*]; done)), HO.below⟩
theorem rr21_x (x : E) (ec : List Value) (w : World) (hk : ¬ (0 ≤ x.kind ∧ x.kind ≤ 4)) (hx : ER (frag w) x ec) :
  Calls Tryz.prog 20 #[.agg ec.toArray] w fun e w' => e = .returned (.bool false) ∧ Below w.heap.size w w' := by
 have HK0 := Yq hx.k0
 generalize x.kind = kd at *
 clear hx
 go_enter Tryz.func20, Tryz.ntmps20
 have HO := Own.nil w
 go_upto_region 1 with (first
 | ((with_reducible refine atOp (.box 52 _) ?_); refine wpList_box_own rfl 52 _ rfl ec rfl HO ?_; clear HO; intro w1 g1 HO)
 | fail)
 have q0 := (HO.at 0 rfl).cell HK0.out
 by_cases h0 : kd < 0
 ·have d0 : decide (kd < 0) = true := decide_eq_true h0
  go_wp2_with fail
  go_ret
  exact ⟨rfl, HO.below⟩
 ·have d0 : decide (kd < 0) = false := decide_eq_false h0
  have d5 : decide (4 < kd) = true := decide_eq_true (by omega)
  go_wp2_with fail
  go_ret
  exact ⟨rfl, HO.below⟩
theorem rr21_all : ∀ N, RR21At N
 | 0 => fun x xc w h => absurd h (Nat.not_lt_zero _)
 | N + 1 => fun x xc w hs hm hv hx => by
  by_cases hk : ¬ (0 ≤ x.kind ∧ x.kind ≤ 4)
  ·have e : eright x = false := Val.eright_x hk
   rw [e]
   exact rr21_x x xc w hk hx
  ·obtain ⟨k, o, n, f, r, ro, rn, s, ks⟩ := x
   have hk : 0 ≤ k ∧ k ≤ 4 := by simpa [E.kind] using hk
   rcases (show k = 0 ∨ k = 1 ∨ k = 2 ∨ k = 3 ∨ k = 4 by omega) with rfl | rfl | rfl | rfl | rfl
   ·exact rr21_0 N (rr21_all N) o n f r ro rn s ks xc w hs hm hv hx
   ·exact rr21_1 N (rr21_all N) o n f r ro rn s ks xc w hs hm hv hx
   ·exact rr21_2 N (rr21_all N) o n f r ro rn s ks xc w hs hm hv hx
   ·exact rr21_3 N (rr21_all N) o n f r ro rn s ks xc w hs hm hv hx
   ·exact rr21_4 N (rr21_all N) o n f r ro rn s ks xc w hs hm hv hx
theorem rr21_any (x : E) (xc : List Value) (w : World) (hm : esm x) (hv : Val.evsm x) (hx : ER (frag w) x xc) :
  Calls Tryz.prog 20 #[.agg xc.toArray] w fun e w' => e = .returned (.bool (eright x)) ∧ Below w.heap.size w w' := rr21_all _ x xc w (Nat.lt_succ_self _) hm hv hx
end Go.Proofs.YtebekgdjknenlaaGreatDoor
