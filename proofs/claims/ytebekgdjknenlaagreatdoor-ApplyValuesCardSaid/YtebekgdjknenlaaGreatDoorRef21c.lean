/- redlineref21.Right, walked: Book. -/
import Derived.Test.YtebekgdjknenlaaGreatDoorRef21b
set_option maxRecDepth 100000
set_option maxHeartbeats 16000000
set_option linter.unusedVariables false
set_option linter.unusedSimpArgs false
namespace Go.Proofs.YtebekgdjknenlaaGreatDoor
open Go.RowKit
open Val (V E v0 right rightF rightL rightP partB cmp noneV bareE eright efields esteps ekeys esm esmF esmS esmK)
theorem infoREK : (Tryz.prog.info? 80).map (·.size) = some 28 := by kernel_rfl
theorem zeroREK : (Tryz.prog.info? 80).map (·.zero) = some (some (.agg (zV ++ zE).toArray)) := by kernel_rfl
theorem sizeREK (w : World) : (Go.sizeOf (Tryz.prog.elem 50)).run Tryz.prog w = .ok 28 w := by kernel_rfl
namespace Val
theorem ekeys_next {f : List (V × E)} {k : Nat} {m : Option V} (h : k < f.length) : ekeys m (f.drop k) = (decide (f[k].1.kind = 1 ∨ f[k].1.kind = 2) && right f[k].1 && (decide (f[k].2.kind ≠ 0) && eright f[k].2) && prevB m f[k].1 && ekeys (some f[k].1) (f.drop (k + 1))) := by
 rw [List.drop_eq_getElem_cons h]
 cases f[k] with | mk n e =>
 rw [ekeys.eq_def]
 cases m <;> rfl
end Val
theorem rr21_4 (N : Nat) (ih : RR21At N) (o n : V) (f : List (Int × E)) (r : Bool) (ro rn : ByteArray) (s : List (Int × Int × V × E)) (ks : List (V × E)) (ec : List Value) (w : World) (hsz : SizeOf.sizeOf (E.mk 4 o n f r ro rn s ks) < N + 1) (hem : esm (.mk 4 o n f r ro rn s ks)) (hev : Val.evsm (.mk 4 o n f r ro rn s ks)) (hx : ER (frag w) (.mk 4 o n f r ro rn s ks) ec) :
  Calls Tryz.prog 20 #[.agg ec.toArray] w fun e w' => e = .returned (.bool (eright (.mk 4 o n f r ro rn s ks))) ∧ Below w.heap.size w w' := by
 obtain ⟨RES, hRES⟩ : ∃ R, R = eright (.mk 4 o n f r ro rn s ks) := ⟨_, rfl⟩
 rw [← hRES]
 rw [Val.eright_4] at hRES
 have HS1 : Hid (∀ e ∈ f, SizeOf.sizeOf e.2 < N) := fun e h => by have := Val.esize_field (x := .mk 4 o n f r ro rn s ks) (m := e.1) (e := e.2) h; omega
 have HS2 : Hid (∀ e ∈ s, SizeOf.sizeOf e.2.2.2 < N) := fun e h => by have := Val.esize_step (x := .mk 4 o n f r ro rn s ks) (k := e.1) (c := e.2.1) (v := e.2.2.1) (e := e.2.2.2) h; omega
 have HS3 : Hid (∀ e ∈ ks, SizeOf.sizeOf e.2 < N) := fun e h => by have := Val.esize_key (x := .mk 4 o n f r ro rn s ks) (k := e.1) (e := e.2) h; omega
 rw [esm] at hem
 rw [Val.evsm] at hev
 have HM1 := Yq (Val.esmF_at hem.2.1); have HM2 := Yq (Val.esmS_at hem.2.2.1); have HM3 := Yq (Val.esmK_at hem.2.2.2)
 have HV1 := Yq (Val.evsmF_at hev.2.2.1); have HV2 := Yq (Val.evsmS_at hev.2.2.2.1); have HV3 := Yq (Val.evsmK_at hev.2.2.2.2)
 have Hvo := Yq hev.1; have Hvn := Yq hev.2.1
 have hro := hem.1.1; have hrn := hem.1.2
 rw [ER] at hx
 obtain ⟨oc, nc, fv, sv, kv, fe, se, ke, hxc, hsz2, ⟨h3, h4⟩, ⟨h5, h6, h7⟩, h8, h9, h10⟩ := hx
 obtain ⟨a1, c1, rfl, _, b1, _⟩ := h5.len
 obtain ⟨a2, c2, rfl, _, b2, _⟩ := h6.len
 obtain ⟨a3, c3, rfl, _, b3, _⟩ := h7.len
 have HA := Yq (fun (w2 : World) (g : Nat) (hB : Blk w2 g ec) => (EdAt.of h3.len h4.len (hxc ▸ hB)))
 have HLo := Yq h3.len; have HLn := Yq h4.len
 have Hvro := Yq h3; have Hvrn := Yq h4
 have HX1 := Yq (And.intro h5 h8); have HX2 := Yq (And.intro h6 h9); have HX3 := Yq (And.intro h7 h10)
 have Hm1 := Yq h8.len; have Hm2 := Yq h9.len; have Hm3 := Yq h10.len
 obtain ⟨ns1, hn1⟩ : ∃ z, z = fe.length := ⟨_, rfl⟩
 obtain ⟨ns2, hn2⟩ : ∃ z, z = se.length := ⟨_, rfl⟩
 obtain ⟨ns3, hn3⟩ : ∃ z, z = ke.length := ⟨_, rfl⟩
 rw [← Hm1.out, ← Hm2.out, ← Hm3.out, ← hn1, ← hn2, ← hn3] at hRES
 rw [← hn1, ← hn2, ← hn3] at HA
 rw [← hn1] at HX1; rw [← hn2] at HX2; rw [← hn3] at HX3
 have Hn1 := Yq hn1.symm; have Hn2 := Yq hn2.symm; have Hn3 := Yq hn3.symm
 have hns1 : ns1 ≤ 9223372036854775807 := by unfold maxLen at b1; omega
 have hns2 : ns2 ≤ 9223372036854775807 := by unfold maxLen at b2; omega
 have hns3 : ns3 ≤ 9223372036854775807 := by unfold maxLen at b3; omega
 have hsum : IntKind.i64.wrap ((ro.size : Int) + (rn.size : Int)) = (ro.size : Int) + (rn.size : Int) := IntWalk.i64_in _ (by omega)
 have HRES := Yq hRES
 have HNo := Yq (fun (w0 : World) (hb : Below w.heap.size w w0) => rnothing_any o oc w0 Hvo.out (Hvro.out.mono (below_le hb)))
 have HNn := Yq (fun (w0 : World) (hb : Below w.heap.size w w0) => rnothing_any n nc w0 Hvn.out (Hvrn.out.mono (below_le hb)))
 clear hxc hsz2 h3 h4 h5 h6 h7 h8 h9 h10 b1 b2 b3 hn1 hn2 hn3 hsz hRES hem hev
 go_enter Tryz.func20, Tryz.ntmps20
 have HO := Own.nil w
 go_upto_region 1 with (first
  | ((with_reducible refine atOp (.box 52 _) ?_); refine wpList_box_own rfl 52 _ rfl ec rfl HO ?_; clear HO; intro w1 g1 HO)
  | fail)
 obtain ⟨r1, r8, k0, k15, k16, k17, k18, k19, k20⟩ := HA.out _ _ (HO.at 0 rfl)
 go_upto_region 3 with fail
 go_simp
 go_cut [80] from 19 to 80 (fun s80 wx => s80 = .bool (!bareE 4 o n ns1 r ro rn ns2 ns3) ∧ Hid (Own w [(g1, ec)] wx))
 case first =>
  obtain ⟨po, hpo⟩ : ∃ z, z = noneV o := ⟨_, rfl⟩
  obtain ⟨pn, hpn⟩ : ∃ z, z = noneV n := ⟨_, rfl⟩
  rw [← hpo] at HNo
  rw [← hpn] at HNn
  have Hpo := Yq hpo.symm; have Hpn := Yq hpn.symm
  clear hpo hpn HRES
  go_wp2_with (first
  | ((with_reducible refine atOp (.load 40 _) ?_); refine wpList_load_seg rfl 40 _ rfl _ _ rfl _ _ r1 Tryz.underlying40 rfl (iC infoRV HLo) ?_)
  | ((with_reducible refine atOp (.load 40 _) ?_); refine wpList_load_seg rfl 40 _ rfl _ _ rfl _ _ r8 Tryz.underlying40 rfl (iC infoRV HLn) ?_)
  | (go_at_call 42; (with_reducible refine (HNo.out _ HO.below).mono ?_); rintro e w7 ⟨rfl, hbc⟩; replace HO := HO.call hbc; clear hbc r1 r8 k0 k15 k16 k17 k18 k19 k20; obtain ⟨r1, r8, k0, k15, k16, k17, k18, k19, k20⟩ := HA.out _ _ (HO.at 0 rfl))
  | (go_at_call 42; (with_reducible refine (HNn.out _ HO.below).mono ?_); rintro e w7 ⟨rfl, hbc⟩; replace HO := HO.call hbc; clear hbc r1 r8 k0 k15 k16 k17 k18 k19 k20; obtain ⟨r1, r8, k0, k15, k16, k17, k18, k19, k20⟩ := HA.out _ _ (HO.at 0 rfl))
  | fail)
  all_goals
   go_meet
   refine ⟨congrArg Value.bool ?_, Yq HO⟩
   unfold bareE
   rw [Hpo.out, Hpn.out]
   first | (simp [Val.z0, *]; done) | (have e : 0 < ro.size + rn.size := (by omega); rw [Val.z0 (ro.size + rn.size), decide_eq_true e]; simp [Val.z0, *]; done) | (have e : ¬ 0 < ro.size + rn.size := (by omega); rw [Val.z0 (ro.size + rn.size), decide_eq_false e]; simp [Val.z0, *]; done)
 obtain ⟨rfl, HO1⟩ := hcut
 clear hsum r1 r8 k0 k15 k16 k17 k18 k19 k20 HO HNo HNn
 replace HO := HO1.out
 clear HO1
 obtain ⟨r1, r8, k0, k15, k16, k17, k18, k19, k20⟩ := HA.out _ _ (HO.at 0 rfl)
 cases hb : bareE 4 o n ns1 r ro rn ns2 ns3 with
 | false =>
  have hR : RES = false := by have h := HRES.out; simpa [hb] using h
  go_wp2_with fail
  go_ret
  exact ⟨ret_bool (by first | rfl | exact hR.symm), HO.below⟩
 | true =>
  have HRF : Hid (RES = (decide (0 < ns3) && ekeys none ks)) := Yq (by have h := HRES.out; simpa only [hb, Bool.true_and] using h)
  have HO1 := Yq HO
  clear HRES hb HO
  go_wp2_with fail
  clear r1 r8 k0 k15 k16 k17 k18 k19 k20
  go_simp
  go_loopw [286] (fun i wr => ∃ (k : Nat), k ≤ ns3 ∧ i = .int .i64 k ∧ Hid (ekeys none ks = ekeys (Val.lastK ks k) (ks.drop k)) ∧ Hid (∀ j (hj : j < ks.length), j < k → ks[j].1.kind = ((ks[0]?).map (·.1.kind)).getD 0) ∧ Hid (Own w [(g1, ec)] wr)) (fun i _ => ns3 - (intOf i).toNat)
  case atStart => exact ⟨0, Nat.zero_le _, rfl, Yq rfl, Yq (fun j _ h => absurd h (Nat.not_lt_zero _)), HO1⟩
  case round =>
   obtain ⟨k, hkn, rfl, HI, HJ, HO⟩ := hrel
   replace HO := HO.out
   by_cases hlt : k < ns3
   ·have hks : k < ke.length := by rw [Hn3.out]; exact hlt
    have hkf : k < ks.length := by rw [← Hm3.out, Hn3.out]; exact hlt
    obtain ⟨b0, o0, hb0, hidx, hcell⟩ := FlatC.at (n := ns3) (cap := c3) (a := a3) HX3.out.1 (by decide) (i := k) hks Tryz.underlying50 sizeREK
    have hr : wr.rangeAt b0 o0 ke[k] := range_below hcell HO.below hb0
    obtain ⟨kc, exc, hx, rk, rx⟩ := HX3.out.2.at hkf hks
    rw [hx] at hr
    have HLk := Yq rk.len; have HLe := Yq rx.shape.len
    have HL8 : Hid ((kc ++ exc).length = 28) := by show _ = _; rw [List.length_append, rk.len, rx.shape.len]
    have H1 : Hid (∀ u ∈ kc ++ exc, u.oneCell' = true) := fun u hu => by
     rcases List.mem_append.1 hu with hu | hu
     ·exact rk.ones u hu
     ·exact rx.shape.one u hu
    have HK1 : Hid ((kc ++ exc)[0]? = some (.int .i64 ks[k].1.kind)) := Yq (by rw [List.getElem?_append_left (by rw [rk.len]; decide)]; exact rk.k0)
    have HK2 : Hid ((kc ++ exc)[7]? = some (.int .i64 ks[k].2.kind)) := Yq (by rw [List.getElem?_append_right (by rw [rk.len]; decide), rk.len]; exact rx.k0)
    have HRk := Yq (fun (w0 : World) (hb : Below w.heap.size w w0) => rright_any ks[k].1 kc w0 (HV3.out _ (List.getElem_mem hkf)).1 (rk.mono (below_le hb)))
    have HRx := Yq (fun (w0 : World) (hb : Below w.heap.size w w0) => ih ks[k].2 exc w0 (HS3.out _ (List.getElem_mem hkf)) (HM3.out _ (List.getElem_mem hkf)) (HV3.out _ (List.getElem_mem hkf)).2 (rx.mono (below_le hb)))
    have hnx := Val.ekeys_next (m := Val.lastK ks k) hkf
    have HLs := Yq (Val.lastK_succ hkf)
    have HP0 : Hid (∃ b1 o1, b1 < w.heap.size ∧ (∀ w', (Instr.indexAt 50 (.slice a3 ns3 c3) (.int .i64 0)).run Tryz.prog w' = .ok (.pointer (some ⟨b1, o1, none⟩)) w') ∧ w.cell? ⟨b1, o1, none⟩ = some (.int .i64 (((ks[0]?).map (·.1.kind)).getD 0))) := by
     have hjs : 0 < ke.length := by omega
     have hjf : 0 < ks.length := by omega
     obtain ⟨b1, o1, hb1, hi1, hc1⟩ := FlatC.at (n := ns3) (cap := c3) (a := a3) HX3.out.1 (by decide) (i := 0) hjs Tryz.underlying50 sizeREK
     obtain ⟨zk, zc, hz, rzk, rz⟩ := HX3.out.2.at hjf hjs
     refine ⟨b1, o1, hb1, hi1, ?_⟩
     have h := hc1 0 (.int .i64 ks[0].1.kind) (by rw [hz, List.getElem?_append_left (by rw [rzk.len]; decide)]; exact rzk.k0)
     simpa [hjf] using h
    have HPv : Hid (∀ (j : Nat), k = j + 1 → ∃ (b1 o1 : Nat) (q : V) (lc : List Value), b1 < w.heap.size ∧ (∀ w', (Instr.indexAt 50 (.slice a3 ns3 c3) (.int .i64 ((k : Int) - 1))).run Tryz.prog w' = .ok (.pointer (some ⟨b1, o1, none⟩)) w') ∧ w.rangeAt b1 o1 lc ∧ VR (frag w) q lc ∧ Val.lastK ks k = some q ∧ q.kind = ((ks[0]?).map (·.1.kind)).getD 0) := fun j hj => by
     subst hj
     have hjs : j < ke.length := by omega
     have hjf : j < ks.length := by omega
     obtain ⟨b1, o1, hb1, hi1, hc1⟩ := FlatC.at (n := ns3) (cap := c3) (a := a3) HX3.out.1 (by decide) (i := j) hjs Tryz.underlying50 sizeREK
     obtain ⟨zk, zc, hz, rzk, rz⟩ := HX3.out.2.at hjf hjs
     refine ⟨b1, o1, ks[j].1, zk, hb1, ?_, ?_, rzk, Val.lastK_succ hjf, HJ.out j hjf (by omega)⟩
     ·rw [show (((j + 1 : Nat)) : Int) - 1 = (j : Int) by omega]; exact hi1
     ·intro i u hu
      exact hc1 i u (by rw [hz, List.getElem?_append_left (by have := (List.getElem?_eq_some_iff.1 hu).1; exact this)]; exact hu)
    have HCm : Hid (∀ (q : V) (lc : List Value) (w0 : World), VR (frag w) q lc → Below w.heap.size w w0 → Calls Tryz.prog 26 #[.agg lc.toArray, .agg kc.toArray] w0 fun e w' => e = .returned (.int .i64 (cmp q ks[k].1)) ∧ Below w0.heap.size w0 w') := fun q lc w0 hq hb => rcmp_any q ks[k].1 lc kc w0 (hq.mono (below_le hb)) (rk.mono (below_le hb))
    have HJn : Hid (ks[k].1.kind = ((ks[0]?).map (·.1.kind)).getD 0 → ∀ j (hj : j < ks.length), j < k + 1 → ks[j].1.kind = ((ks[0]?).map (·.1.kind)).getD 0) := Yq (fun h j hj hlt => by
     by_cases e : j = k
     ·subst e; exact h
     ·exact HJ.out j hj (by omega))
    have Hz0 : Hid (k = 0 → ks[k].1.kind = ((ks[0]?).map (·.1.kind)).getD 0) := Yq (fun h => by subst h; simp [hkf])
    have HPb : Hid (∀ q : V, Val.prevB (some q) ks[k].1 = (decide (q.kind = ks[k].1.kind) && decide (cmp q ks[k].1 < 0))) := Yq (fun q => Val.prevB_some q _)
    rw [hnx] at HI
    generalize hrest : ekeys (some ks[k].1) (ks.drop (k + 1)) = rest at HI
    have Hrest := Yq hrest
    clear hcell hx rk rx hnx hrest hks HJ
    generalize eright ks[k].2 = re at *
    generalize ks[k].2.kind = ek at *
    generalize right ks[k].1 = ra at *
    generalize hkk : ks[k].1.kind = kk at *
    have Hkk := Yq hkk
    generalize hky : ks[k].1 = key at *
    generalize ((ks[0]?).map (·.1.kind)).getD 0 = z0 at *
    clear hkk hky
    go_upto_region 44 with (first
   | ((with_reducible refine atOp (.load 80 _) ?_); refine wpList_load_seg rfl 80 _ rfl _ _ rfl _ _ hr Tryz.underlying80 rfl (iC infoREK HL8) ?_)
   | ((with_reducible refine atOp (.alloc 80) ?_); refine wpList_alloc_own rfl 80 rfl (zV ++ zE) zeroREK HO ?_; clear HO; intro w6 g8 HO)
   | ((with_reducible refine atOp (.store 80 _ _) ?_); refine wpList_store_own 0 rfl 80 _ _ rfl _ 0 (kc ++ exc) rfl rfl HO rfl (iC infoREK HL8) (by rw [HL8.out]; decide) H1.out (patch_whole' _ _ (by rw [HL8.out]; rfl)) ?_; clear HO hr hidx; intro w5 HO)
   | fail)
    go_simp
    have n0 : w5.cell? ⟨g8, 0, none⟩ = some (.int .i64 kk) := (HO.at 0 rfl).cell HK1.out
    have n7 : w5.cell? ⟨g8, 7, none⟩ = some (.int .i64 ek) := (HO.at 0 rfl).cell HK2.out
    obtain ⟨_, _, _, _, _, _, _, _, k20⟩ := HA.out _ _ (HO.at 1 rfl)
    have Hfl : Hid (ekeys none ks = false → RES = false) := Yq (fun h => by rw [HRF.out, h, Bool.and_false])
    have hb5 := HO.below
    have p0 : w5.rangeAt g8 0 kc := (HO.at 0 rfl).range (p := []) (q := kc) (r := exc) (by simp) rfl
    obtain ⟨b2, o2, hb2, hidx2, hp2⟩ := HP0.out
    have q7 : w5.cell? ⟨b2, o2, none⟩ = some (.int .i64 z0) := (hb5.cell hb2).trans hp2
    have y5 : (0 : Int) < (ns3 : Int) := by omega
    by_cases h1 : ¬ (kk = 1 ∨ kk = 2)
    ·have d1 : (kk != 1) = true := by simp; omega
     have d2 : (kk != 2) = true := by simp; omega
     have hR : Hid (RES = false) := Yq (Hfl.out (by rw [HI.out, decide_eq_false h1]; simp))
     have H1x := Yq h1; clear h1
     go_quiet (fail)
     go_wp2_with fail
     go_ret
     exact ⟨ret_bool (by first | rfl | exact hR.out.symm), Below.drewN hb5 _⟩
    have Hk12 : Hid (kk = 1 ∨ kk = 2) := Yq (by omega)
    clear h1
    by_cases h3 : ¬ kk = z0
    ·have d3 : (kk != z0) = true := by simp [h3]
     have d3b : (kk == z0) = false := by simp [h3]
     have d3c : decide (kk = z0) = false := by simp [h3]
     have d3e : ¬ kk = z0 := h3
     have hR : Hid (RES = false) := Yq (Hfl.out (by
      by_cases hk0 : k = 0
      ·exact absurd (Hz0.out hk0) h3
      ·obtain ⟨j, hj⟩ : ∃ j, k = j + 1 := ⟨k - 1, by omega⟩
       obtain ⟨_, _, qv, _, _, _, _, _, hlq, hqk⟩ := HPv.out j hj
       rw [HI.out, hlq, HPb.out, decide_eq_false (show ¬ qv.kind = kk from fun e => h3 (e.symm.trans hqk))]; simp))
     have H3 := Yq h3; clear h3
     rcases Hk12.out with e | e
     ·have d1 : (kk != 1) = false := by simp [e]
      replace e := Yq e
      go_quiet (fail)
      go_wp2_with fail
      go_ret
      exact ⟨ret_bool (by first | rfl | exact hR.out.symm), Below.drewN hb5 _⟩
     ·have d1 : (kk != 1) = true := by simp [e]
      have d2 : (kk != 2) = false := by simp [e]
      replace e := Yq e
      go_quiet (fail)
      go_wp2_with fail
      go_ret
      exact ⟨ret_bool (by first | rfl | exact hR.out.symm), Below.drewN hb5 _⟩
    have Hzz : Hid (kk = z0) := Yq (by omega)
    clear h3
    have d3 : (kk != z0) = false := by have := Hzz.out; simp [this]
    have d3b : (kk == z0) = true := by have := Hzz.out; simp [this]
    have d3c : decide (kk = z0) = true := by have := Hzz.out; simp [this]
    have HI2 : Hid (ekeys none ks = (ra && (decide (ek ≠ 0) && (re && (Val.prevB (Val.lastK ks k) key && rest))))) := Yq (by
     rw [HI.out, decide_eq_true Hk12.out]; cases ra <;> cases re <;> simp [Bool.and_assoc])
    have HOd := Yq HO.drew
    have hb6 := hb5.drew
    have HOc := Yq (fun (w7 : World) (hb : Below w5.drew.heap.size w5.drew w7) => And.intro (HOd.out.call hb) (And.intro ((((HOd.out.call hb).at 0 rfl).range (p := kc) (q := exc) (r := []) (by simp) HLk.out : w7.rangeAt g8 7 exc)) (((HOd.out.call hb).at 0 rfl).cell HK2.out : w7.cell? ⟨g8, 7, none⟩ = some (.int .i64 ek))))
    clear HI HO
    rcases Hk12.out with e | e
    ·have d1 : (kk != 1) = false := by simp [e]
     replace e := Yq e
     go_wp2_with fail
     refine wp_region_still_tail 25 (by kernel_rfl) (by kernel_rfl) ?_
     change wpStill _ _ (World.drew _) _ _ _
     simp only [List.take_succ_cons, List.take_zero, List.drop_succ_cons, List.drop_zero]
     refine wpStill_of_quiet ?_
     iterate 24 go_big_quiet_step (fail)
     refine wpQuiet_load_seg rfl 40 _ rfl g8 0 rfl kc _ p0 Tryz.underlying40 rfl (iC infoRV HLk) ?_
     refine wpQuiet_nil ?_
     change wpList _ _ _ _ _ (World.drew _)
     cases ra with
     | false =>
      have hR : Hid (RES = false) := Yq (Hfl.out (by rw [HI2.out]; rfl))
      go_wp2_with (first
       | (go_at_call 21; (with_reducible refine (HRk.out _ hb6).mono ?_); rintro e w7 ⟨rfl, hbc⟩)
       | fail)
      go_ret
      exact ⟨ret_bool (by first | rfl | exact hR.out.symm), hb6.trans (hbc.mono hb6.size)⟩
     | true =>
      by_cases h4 : ek = 0
      ·have d4 : (ek == 0) = true := by simp [h4]
       have hR : Hid (RES = false) := Yq (Hfl.out (by rw [HI2.out, decide_eq_false (by simp [h4])]; rfl))
       have H4 := Yq h4; clear h4
       go_wp2_with (first
      | (go_at_call 21; (with_reducible refine (HRk.out _ hb6).mono ?_); rintro e w7 ⟨rfl, hbc⟩; obtain ⟨HO7, p7, m7⟩ := HOc.out _ hbc; have hb7 := HO7.below; clear p0 n7)
      | fail)
       go_ret
       exact ⟨ret_bool (by first | rfl | exact hR.out.symm), hb7⟩
      ·have d4 : (ek == 0) = false := by simp [h4]
       have HI3 : Hid (ekeys none ks = (re && (Val.prevB (Val.lastK ks k) key && rest))) := Yq (by rw [HI2.out, decide_eq_true h4]; rfl)
       have H4 := Yq h4; clear h4 HI2
       cases re with
       | false =>
        have hR : Hid (RES = false) := Yq (Hfl.out (by rw [HI3.out]; rfl))
        go_wp2_with (first
      | (go_at_call 21; (with_reducible refine (HRk.out _ hb6).mono ?_); rintro e w7 ⟨rfl, hbc⟩; obtain ⟨HO7, p7, m7⟩ := HOc.out _ hbc; have hb7 := HO7.below; clear p0 n7)
      | ((with_reducible refine atOp (.load 52 _) ?_); refine wpList_load_seg rfl 52 _ rfl _ _ rfl _ _ p7 Tryz.underlying52 rfl (iC infoRE HLe) ?_)
      | (go_at_call 20; (with_reducible refine (HRx.out _ hb7).mono ?_); rintro e w8 ⟨rfl, hbd⟩)
      | fail)
        go_ret
        exact ⟨ret_bool (by first | rfl | exact hR.out.symm), hb7.trans (hbd.mono hb7.size)⟩
       | true =>
        have HI4 : Hid (ekeys none ks = (Val.prevB (Val.lastK ks k) key && rest)) := Yq (by rw [HI3.out, Bool.true_and])
        clear HI3
        go_upto_region 46 with (first
      | (go_at_call 21; (with_reducible refine (HRk.out _ hb6).mono ?_); rintro e w7 ⟨rfl, hbc⟩; obtain ⟨HO7, p7, m7⟩ := HOc.out _ hbc; have hb7 := HO7.below; clear p0 n7)
      | ((with_reducible refine atOp (.load 52 _) ?_); refine wpList_load_seg rfl 52 _ rfl _ _ rfl _ _ p7 Tryz.underlying52 rfl (iC infoRE HLe) ?_)
      | (go_at_call 20; (with_reducible refine (HRx.out _ hb7).mono ?_); rintro e w8 ⟨rfl, hbd⟩)
      | fail)
        go_simp
        have HO8 := Yq (HO7.call hbd)
        clear HO7 hb7 hbc hbd p7 m7 HOc HOd hb6 hb5 q7
        have hb8 := HO8.out.below
        obtain ⟨_, _, _, _, _, _, _, _, k20⟩ := HA.out _ _ (HO8.out.at 1 rfl)
        by_cases hk0 : k = 0
        ·have y2 : decide ((0 : Int) < (k : Int)) = false := decide_eq_false (by omega)
         have y1 : ¬ ((0 : Int) < (k : Int)) := by omega
         have y3 : decide (0 < k) = false := decide_eq_false (by omega)
         have y4 : ¬ (0 < k) := by omega
         have Hl0 : Hid (Val.lastK ks k = none) := Yq (by rw [hk0]; rfl)
         clear hk0
         go_quiet (fail)
         all_goals
          go_wp2_with fail
          go_roundw
          case rel => exact ⟨k + 1, by omega, by go_num, Yq (by rw [HI4.out, Hl0.out, Val.prevB_none, Bool.true_and, ← Hrest.out, HLs.out]), Yq (HJn.out Hzz.out), Yq ((HO8.out.drewN _).sub (.cons _ (List.Sublist.refl _)))⟩
          case measure => simp [intOf]; omega
        ·obtain ⟨j, hj⟩ : ∃ j, k = j + 1 := ⟨k - 1, by omega⟩
         obtain ⟨b1, o1, qv, lc, hb1, hidx1, hp1, rq, hlq, hqk⟩ := HPv.out j hj
         have HCq := Yq (fun (w0 : World) (hb : Below w.heap.size w w0) => HCm.out qv lc w0 rq hb)
         have HLq := Yq rq.len
         have Hqk := Yq hqk; have Hlq := Yq hlq
         have r7 : w8.rangeAt b1 o1 lc := range_below hp1 hb8 hb1
         have y1 : (0 : Int) < (k : Int) := by omega
         have y2 : decide ((0 : Int) < (k : Int)) = true := decide_eq_true y1
         have y4 : 0 < k := by omega
         have y3 : (k : Int) - 1 < (ns3 : Int) := by omega
         have hwr : IntKind.i64.wrap ((k : Int) - 1) = (k : Int) - 1 := IntWalk.i64_in _ (by omega)
         clear hj hp1 hk0 rq hlq hqk
         have p0 : w8.rangeAt g8 0 kc := (HO8.out.at 0 rfl).range (p := []) (q := kc) (r := exc) (by simp) rfl
         have hb9 := hb8.drew
         have HOd := Yq HO8.out.drew
         have HPq : Hid (Val.prevB (some qv) key = decide (cmp qv key < 0)) := Yq (by rw [HPb.out, decide_eq_true (Hqk.out.trans Hzz.out.symm), Bool.true_and])
         generalize cmp qv key = c at *
         go_wp2_with fail
         refine wp_region_still_tail 12 (by kernel_rfl) (by kernel_rfl) ?_
         change wpStill _ _ (World.drew _) _ _ _
         simp only [List.take_succ_cons, List.take_zero, List.drop_succ_cons, List.drop_zero]
         refine wpStill_of_quiet ?_
         iterate 9 go_big_quiet_step (fail)
         refine wpQuiet_load_seg rfl 40 _ rfl b1 o1 rfl lc _ r7 Tryz.underlying40 rfl (iC infoRV HLq) ?_
         go_simp
         iterate 1 go_big_quiet_step (fail)
         refine wpQuiet_load_seg rfl 40 _ rfl g8 0 rfl kc _ p0 Tryz.underlying40 rfl (iC infoRV HLk) ?_
         refine wpQuiet_nil ?_
         change wpList _ _ _ _ _ (World.drew _)
         by_cases hc : c < 0
         ·have dc : decide (0 ≤ c) = false := decide_eq_false (by omega)
          have dc2 : decide (c ≥ 0) = false := decide_eq_false (by omega)
          have Hc := Yq hc; clear hc
          go_wp2_with (go_at_call 26; (with_reducible refine (HCq.out _ hb9).mono ?_); rintro e w7 ⟨rfl, hbc⟩)
          go_roundw
          case rel => exact ⟨k + 1, by omega, by go_num, Yq (by rw [HI4.out, Hlq.out, HPq.out, decide_eq_true Hc.out, Bool.true_and, ← Hrest.out, HLs.out]), Yq (HJn.out Hzz.out), Yq ((HOd.out.call hbc).sub (.cons _ (List.Sublist.refl _)))⟩
          case measure => simp [intOf]; omega
         ·have dc : decide (0 ≤ c) = true := decide_eq_true (by omega)
          have dc2 : decide (c ≥ 0) = true := decide_eq_true (by omega)
          have hR : Hid (RES = false) := Yq (Hfl.out (by rw [HI4.out, Hlq.out, HPq.out, decide_eq_false hc, Bool.false_and]))
          have Hc := Yq hc; clear hc
          go_wp2_with (go_at_call 26; (with_reducible refine (HCq.out _ hb9).mono ?_); rintro e w7 ⟨rfl, hbc⟩)
          go_ret
          exact ⟨ret_bool (by first | rfl | exact hR.out.symm), hb9.trans (hbc.mono hb9.size)⟩
    ·have d1 : (kk != 1) = true := by simp [e]
     have d2 : (kk != 2) = false := by simp [e]
     replace e := Yq e
     go_wp2_with fail
     refine wp_region_still_tail 25 (by kernel_rfl) (by kernel_rfl) ?_
     change wpStill _ _ (World.drew _) _ _ _
     simp only [List.take_succ_cons, List.take_zero, List.drop_succ_cons, List.drop_zero]
     refine wpStill_of_quiet ?_
     iterate 24 go_big_quiet_step (fail)
     refine wpQuiet_load_seg rfl 40 _ rfl g8 0 rfl kc _ p0 Tryz.underlying40 rfl (iC infoRV HLk) ?_
     refine wpQuiet_nil ?_
     change wpList _ _ _ _ _ (World.drew _)
     cases ra with
     | false =>
      have hR : Hid (RES = false) := Yq (Hfl.out (by rw [HI2.out]; rfl))
      go_wp2_with (first
       | (go_at_call 21; (with_reducible refine (HRk.out _ hb6).mono ?_); rintro e w7 ⟨rfl, hbc⟩)
       | fail)
      go_ret
      exact ⟨ret_bool (by first | rfl | exact hR.out.symm), hb6.trans (hbc.mono hb6.size)⟩
     | true =>
      by_cases h4 : ek = 0
      ·have d4 : (ek == 0) = true := by simp [h4]
       have hR : Hid (RES = false) := Yq (Hfl.out (by rw [HI2.out, decide_eq_false (by simp [h4])]; rfl))
       have H4 := Yq h4; clear h4
       go_wp2_with (first
      | (go_at_call 21; (with_reducible refine (HRk.out _ hb6).mono ?_); rintro e w7 ⟨rfl, hbc⟩; obtain ⟨HO7, p7, m7⟩ := HOc.out _ hbc; have hb7 := HO7.below; clear p0 n7)
      | fail)
       go_ret
       exact ⟨ret_bool (by first | rfl | exact hR.out.symm), hb7⟩
      ·have d4 : (ek == 0) = false := by simp [h4]
       have HI3 : Hid (ekeys none ks = (re && (Val.prevB (Val.lastK ks k) key && rest))) := Yq (by rw [HI2.out, decide_eq_true h4]; rfl)
       have H4 := Yq h4; clear h4 HI2
       cases re with
       | false =>
        have hR : Hid (RES = false) := Yq (Hfl.out (by rw [HI3.out]; rfl))
        go_wp2_with (first
      | (go_at_call 21; (with_reducible refine (HRk.out _ hb6).mono ?_); rintro e w7 ⟨rfl, hbc⟩; obtain ⟨HO7, p7, m7⟩ := HOc.out _ hbc; have hb7 := HO7.below; clear p0 n7)
      | ((with_reducible refine atOp (.load 52 _) ?_); refine wpList_load_seg rfl 52 _ rfl _ _ rfl _ _ p7 Tryz.underlying52 rfl (iC infoRE HLe) ?_)
      | (go_at_call 20; (with_reducible refine (HRx.out _ hb7).mono ?_); rintro e w8 ⟨rfl, hbd⟩)
      | fail)
        go_ret
        exact ⟨ret_bool (by first | rfl | exact hR.out.symm), hb7.trans (hbd.mono hb7.size)⟩
       | true =>
        have HI4 : Hid (ekeys none ks = (Val.prevB (Val.lastK ks k) key && rest)) := Yq (by rw [HI3.out, Bool.true_and])
        clear HI3
        go_upto_region 46 with (first
      | (go_at_call 21; (with_reducible refine (HRk.out _ hb6).mono ?_); rintro e w7 ⟨rfl, hbc⟩; obtain ⟨HO7, p7, m7⟩ := HOc.out _ hbc; have hb7 := HO7.below; clear p0 n7)
      | ((with_reducible refine atOp (.load 52 _) ?_); refine wpList_load_seg rfl 52 _ rfl _ _ rfl _ _ p7 Tryz.underlying52 rfl (iC infoRE HLe) ?_)
      | (go_at_call 20; (with_reducible refine (HRx.out _ hb7).mono ?_); rintro e w8 ⟨rfl, hbd⟩)
      | fail)
        go_simp
        have HO8 := Yq (HO7.call hbd)
        clear HO7 hb7 hbc hbd p7 m7 HOc HOd hb6 hb5 q7
        have hb8 := HO8.out.below
        obtain ⟨_, _, _, _, _, _, _, _, k20⟩ := HA.out _ _ (HO8.out.at 1 rfl)
        by_cases hk0 : k = 0
        ·have y2 : decide ((0 : Int) < (k : Int)) = false := decide_eq_false (by omega)
         have y1 : ¬ ((0 : Int) < (k : Int)) := by omega
         have y3 : decide (0 < k) = false := decide_eq_false (by omega)
         have y4 : ¬ (0 < k) := by omega
         have Hl0 : Hid (Val.lastK ks k = none) := Yq (by rw [hk0]; rfl)
         clear hk0
         go_quiet (fail)
         all_goals
          go_wp2_with fail
          go_roundw
          case rel => exact ⟨k + 1, by omega, by go_num, Yq (by rw [HI4.out, Hl0.out, Val.prevB_none, Bool.true_and, ← Hrest.out, HLs.out]), Yq (HJn.out Hzz.out), Yq ((HO8.out.drewN _).sub (.cons _ (List.Sublist.refl _)))⟩
          case measure => simp [intOf]; omega
        ·obtain ⟨j, hj⟩ : ∃ j, k = j + 1 := ⟨k - 1, by omega⟩
         obtain ⟨b1, o1, qv, lc, hb1, hidx1, hp1, rq, hlq, hqk⟩ := HPv.out j hj
         have HCq := Yq (fun (w0 : World) (hb : Below w.heap.size w w0) => HCm.out qv lc w0 rq hb)
         have HLq := Yq rq.len
         have Hqk := Yq hqk; have Hlq := Yq hlq
         have r7 : w8.rangeAt b1 o1 lc := range_below hp1 hb8 hb1
         have y1 : (0 : Int) < (k : Int) := by omega
         have y2 : decide ((0 : Int) < (k : Int)) = true := decide_eq_true y1
         have y4 : 0 < k := by omega
         have y3 : (k : Int) - 1 < (ns3 : Int) := by omega
         have hwr : IntKind.i64.wrap ((k : Int) - 1) = (k : Int) - 1 := IntWalk.i64_in _ (by omega)
         clear hj hp1 hk0 rq hlq hqk
         have p0 : w8.rangeAt g8 0 kc := (HO8.out.at 0 rfl).range (p := []) (q := kc) (r := exc) (by simp) rfl
         have hb9 := hb8.drew
         have HOd := Yq HO8.out.drew
         have HPq : Hid (Val.prevB (some qv) key = decide (cmp qv key < 0)) := Yq (by rw [HPb.out, decide_eq_true (Hqk.out.trans Hzz.out.symm), Bool.true_and])
         generalize cmp qv key = c at *
         go_wp2_with fail
         refine wp_region_still_tail 12 (by kernel_rfl) (by kernel_rfl) ?_
         change wpStill _ _ (World.drew _) _ _ _
         simp only [List.take_succ_cons, List.take_zero, List.drop_succ_cons, List.drop_zero]
         refine wpStill_of_quiet ?_
         iterate 9 go_big_quiet_step (fail)
         refine wpQuiet_load_seg rfl 40 _ rfl b1 o1 rfl lc _ r7 Tryz.underlying40 rfl (iC infoRV HLq) ?_
         go_simp
         iterate 1 go_big_quiet_step (fail)
         refine wpQuiet_load_seg rfl 40 _ rfl g8 0 rfl kc _ p0 Tryz.underlying40 rfl (iC infoRV HLk) ?_
         refine wpQuiet_nil ?_
         change wpList _ _ _ _ _ (World.drew _)
         by_cases hc : c < 0
         ·have dc : decide (0 ≤ c) = false := decide_eq_false (by omega)
          have dc2 : decide (c ≥ 0) = false := decide_eq_false (by omega)
          have Hc := Yq hc; clear hc
          go_wp2_with (go_at_call 26; (with_reducible refine (HCq.out _ hb9).mono ?_); rintro e w7 ⟨rfl, hbc⟩)
          go_roundw
          case rel => exact ⟨k + 1, by omega, by go_num, Yq (by rw [HI4.out, Hlq.out, HPq.out, decide_eq_true Hc.out, Bool.true_and, ← Hrest.out, HLs.out]), Yq (HJn.out Hzz.out), Yq ((HOd.out.call hbc).sub (.cons _ (List.Sublist.refl _)))⟩
          case measure => simp [intOf]; omega
         ·have dc : decide (0 ≤ c) = true := decide_eq_true (by omega)
          have dc2 : decide (c ≥ 0) = true := decide_eq_true (by omega)
          have hR : Hid (RES = false) := Yq (Hfl.out (by rw [HI4.out, Hlq.out, HPq.out, decide_eq_false hc, Bool.false_and]))
          have Hc := Yq hc; clear hc
          go_wp2_with (go_at_call 26; (with_reducible refine (HCq.out _ hb9).mono ?_); rintro e w7 ⟨rfl, hbc⟩)
          go_ret
          exact ⟨ret_bool (by first | rfl | exact hR.out.symm), hb9.trans (hbc.mono hb9.size)⟩
   ·obtain rfl : k = ns3 := by omega
    have HF3 : Hid (RES = decide (0 < k)) := Yq (by rw [HRF.out, HI.out, List.drop_of_length_le (by rw [← Hm3.out, Hn3.out]; exact Nat.le_refl _), ekeys.eq_def]; simp)
    have HO1 := Yq HO
    obtain ⟨r1, r8, k0, k15, k16, k17, k18, k19, k20⟩ := HA.out _ _ (HO.at 0 rfl)
    clear HO HI hlt
    go_wp2_with fail
    all_goals
     go_ret
     exact ⟨ret_bool (by first | rfl | exact HF3.out.symm | (rw [HF3.out]; simp [*]; done)), HO1.out.below⟩
end Go.Proofs.YtebekgdjknenlaaGreatDoor
