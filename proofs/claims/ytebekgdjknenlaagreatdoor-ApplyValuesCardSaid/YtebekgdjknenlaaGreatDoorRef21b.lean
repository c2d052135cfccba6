/- redlineref21.Right, walked: Into. -/
import Derived.Test.YtebekgdjknenlaaGreatDoorGpAS
set_option maxRecDepth 100000
set_option maxHeartbeats 16000000
set_option linter.unusedVariables false
set_option linter.unusedSimpArgs false
namespace Go.Proofs.YtebekgdjknenlaaGreatDoor
open Go.RowKit
open Val (V E v0 right rightF rightL rightP partB cmp noneV bareE eright efields esteps ekeys esm esmF esmS esmK)
theorem infoREF : (Tryz.prog.info? 76).map (·.size) = some 22 := by kernel_rfl
theorem infoRE : (Tryz.prog.info? 52).map (·.size) = some 21 := by kernel_rfl
theorem zeroREF : (Tryz.prog.info? 76).map (·.zero) = some (some (.agg (Value.int .i64 0 :: zE).toArray)) := by kernel_rfl
theorem sizeREF (w : World) : (Go.sizeOf (Tryz.prog.elem 48)).run Tryz.prog w = .ok 22 w := by kernel_rfl
namespace Val
def lastEF (f : List (Int × E)) (k : Nat) : Int := if k = 0 then 0 else ((f[k - 1]?).map (·.1)).getD 0
theorem lastEF_succ {f : List (Int × E)} {k : Nat} (h : k < f.length) : lastEF f (k + 1) = f[k].1 := by simp [lastEF, h]
theorem efields_next {f : List (Int × E)} {k : Nat} {m : Int} (h : k < f.length) : efields m (f.drop k) = (decide (m < f[k].1 ∧ f[k].1 ≤ 536870911 ∧ f[k].2.kind ≠ 0) && eright f[k].2 && efields f[k].1 (f.drop (k + 1))) := by
 rw [List.drop_eq_getElem_cons h]
 cases f[k] with | mk n e =>
 rw [efields]
 by_cases h1 : m < n ∧ n ≤ 536870911
 ·by_cases h2 : e.kind ≠ 0
  ·simp [h1, h2]
  ·simp [h1, h2]
 ·have h3 : ¬ (m < n ∧ n ≤ 536870911 ∧ e.kind ≠ 0) := fun h => h1 ⟨h.1, h.2.1⟩
  rw [decide_eq_false h1, decide_eq_false h3]; simp
theorem size0 {b : ByteArray} (h : b.size = 0) : b = ⟨#[]⟩ := by
 obtain ⟨d⟩ := b
 have : d = #[] := Array.eq_empty_of_size_eq_zero h
 rw [this]
theorem restB (r : Bool) (ro rn : ByteArray) (f : List (Int × E)) : (decide (r = decide (ro ≠ rn)) && ((r || decide (ro.size = 0)) && (r || decide (f ≠ [])))) = if r then decide (ro ≠ rn) else (decide (0 < f.length) && decide (ro.size + rn.size = 0)) := by
 cases r with
 | true => by_cases h : ro = rn <;> simp [h]
 | false =>
  rw [if_neg (by decide)]
  by_cases h : ro.size + rn.size = 0
  ·have e1 : ro = ⟨#[]⟩ := size0 (by omega)
   have e2 : rn = ⟨#[]⟩ := size0 (by omega)
   rw [e1, e2]
   cases f <;> simp
  ·rw [decide_eq_false h, Bool.and_false]
   by_cases h2 : ro.size = 0
   ·have : ro ≠ rn := fun e => by rw [e] at h h2; omega
    simp [this]
   ·simp [h2]
end Val
theorem rr21_2 (N : Nat) (ih : RR21At N) (o n : V) (f : List (Int × E)) (r : Bool) (ro rn : ByteArray) (s : List (Int × Int × V × E)) (ks : List (V × E)) (ec : List Value) (w : World) (hsz : SizeOf.sizeOf (E.mk 2 o n f r ro rn s ks) < N + 1) (hem : esm (.mk 2 o n f r ro rn s ks)) (hev : Val.evsm (.mk 2 o n f r ro rn s ks)) (hx : ER (frag w) (.mk 2 o n f r ro rn s ks) ec) :
  Calls Tryz.prog 20 #[.agg ec.toArray] w fun e w' => e = .returned (.bool (eright (.mk 2 o n f r ro rn s ks))) ∧ Below w.heap.size w w' := by
 obtain ⟨RES, hRES⟩ : ∃ R, R = eright (.mk 2 o n f r ro rn s ks) := ⟨_, rfl⟩
 rw [← hRES]
 rw [Val.eright_2] at hRES
 have HS1 : Hid (∀ e ∈ f, SizeOf.sizeOf e.2 < N) := fun e h => by have := Val.esize_field (x := .mk 2 o n f r ro rn s ks) (m := e.1) (e := e.2) h; omega
 have HS2 : Hid (∀ e ∈ s, SizeOf.sizeOf e.2.2.2 < N) := fun e h => by have := Val.esize_step (x := .mk 2 o n f r ro rn s ks) (k := e.1) (c := e.2.1) (v := e.2.2.1) (e := e.2.2.2) h; omega
 have HS3 : Hid (∀ e ∈ ks, SizeOf.sizeOf e.2 < N) := fun e h => by have := Val.esize_key (x := .mk 2 o n f r ro rn s ks) (k := e.1) (e := e.2) h; omega
 rw [esm] at hem
 rw [Val.evsm] at hev
 have HM1 := Yq (Val.esmF_at hem.2.1); have HM2 := Yq (Val.esmS_at hem.2.2.1); have HM3 := Yq (Val.esmK_at hem.2.2.2)
 have HV1 := Yq (Val.evsmF_at hev.2.2.1); have HV2 := Yq (Val.evsmS_at hev.2.2.2.1); have HV3 := Yq (Val.evsmK_at hev.2.2.2.2)
 have Hvo := Yq hev.1; have Hvn := Yq hev.2.1
 have hro := hem.1.1; have hrn := hem.1.2
 rw [ER] at hx
 obtain ⟨oc, nc, fv, sv, kv, fe, se, ke, hxc, hsz2, ⟨h3, h4⟩, ⟨h5, h6, h7⟩, h8, h9, h10⟩ := hx
 obtain ⟨a1, c1, rfl, _, b1, _⟩ := h5.len
 obtain ⟨a2, c2, rfl, _, b2, _⟩ := h6.len
 obtain ⟨a3, c3, rfl, _, b3, _⟩ := h7.len
 have HA := Yq (fun (w2 : World) (g : Nat) (hB : Blk w2 g ec) => (EdAt.of h3.len h4.len (hxc ▸ hB)))
 have HLo := Yq h3.len; have HLn := Yq h4.len
 have Hvro := Yq h3; have Hvrn := Yq h4
 have HX1 := Yq (And.intro h5 h8); have HX2 := Yq (And.intro h6 h9); have HX3 := Yq (And.intro h7 h10)
 have Hm1 := Yq h8.len; have Hm2 := Yq h9.len; have Hm3 := Yq h10.len
 obtain ⟨ns1, hn1⟩ : ∃ z, z = fe.length := ⟨_, rfl⟩
 obtain ⟨ns2, hn2⟩ : ∃ z, z = se.length := ⟨_, rfl⟩
 obtain ⟨ns3, hn3⟩ : ∃ z, z = ke.length := ⟨_, rfl⟩
 rw [← Hm1.out, ← Hm2.out, ← Hm3.out, ← hn1, ← hn2, ← hn3] at hRES
 rw [← hn1, ← hn2, ← hn3] at HA
 rw [← hn1] at HX1; rw [← hn2] at HX2; rw [← hn3] at HX3
 have Hn1 := Yq hn1.symm; have Hn2 := Yq hn2.symm; have Hn3 := Yq hn3.symm
 have hns1 : ns1 ≤ 9223372036854775807 := by unfold maxLen at b1; omega
 have hns2 : ns2 ≤ 9223372036854775807 := by unfold maxLen at b2; omega
 have hns3 : ns3 ≤ 9223372036854775807 := by unfold maxLen at b3; omega
 have hsum : IntKind.i64.wrap ((ro.size : Int) + (rn.size : Int)) = (ro.size : Int) + (rn.size : Int) := IntWalk.i64_in _ (by omega)
 have HRES := Yq hRES
 have HNo := Yq (fun (w0 : World) (hb : Below w.heap.size w w0) => rnothing_any o oc w0 Hvo.out (Hvro.out.mono (below_le hb)))
 have HNn := Yq (fun (w0 : World) (hb : Below w.heap.size w w0) => rnothing_any n nc w0 Hvn.out (Hvrn.out.mono (below_le hb)))
 clear hxc hsz2 h3 h4 h5 h6 h7 h8 h9 h10 b1 b2 b3 hn1 hn2 hn3 hsz hRES hem hev
 go_enter Tryz.func20, Tryz.ntmps20
 have HO := Own.nil w
 go_upto_region 1 with (first
  | ((with_reducible refine atOp (.box 52 _) ?_); refine wpList_box_own rfl 52 _ rfl ec rfl HO ?_; clear HO; intro w1 g1 HO)
  | fail)
 obtain ⟨r1, r8, k0, k15, k16, k17, k18, k19, k20⟩ := HA.out _ _ (HO.at 0 rfl)
 go_upto_region 3 with fail
 go_simp
 go_cut [80] from 19 to 80 (fun s80 wx => s80 = .bool (!bareE 2 o n ns1 r ro rn ns2 ns3) ∧ Hid (Own w [(g1, ec)] wx))
 case first =>
  obtain ⟨po, hpo⟩ : ∃ z, z = noneV o := ⟨_, rfl⟩
  obtain ⟨pn, hpn⟩ : ∃ z, z = noneV n := ⟨_, rfl⟩
  rw [← hpo] at HNo
  rw [← hpn] at HNn
  have Hpo := Yq hpo.symm; have Hpn := Yq hpn.symm
  clear hpo hpn HRES
  go_wp2_with (first
  | ((with_reducible refine atOp (.load 40 _) ?_); refine wpList_load_seg rfl 40 _ rfl _ _ rfl _ _ r1 Tryz.underlying40 rfl (iC infoRV HLo) ?_)
  | ((with_reducible refine atOp (.load 40 _) ?_); refine wpList_load_seg rfl 40 _ rfl _ _ rfl _ _ r8 Tryz.underlying40 rfl (iC infoRV HLn) ?_)
  | (go_at_call 42; (with_reducible refine (HNo.out _ HO.below).mono ?_); rintro e w7 ⟨rfl, hbc⟩; replace HO := HO.call hbc; clear hbc r1 r8 k0 k15 k16 k17 k18 k19 k20; obtain ⟨r1, r8, k0, k15, k16, k17, k18, k19, k20⟩ := HA.out _ _ (HO.at 0 rfl))
  | (go_at_call 42; (with_reducible refine (HNn.out _ HO.below).mono ?_); rintro e w7 ⟨rfl, hbc⟩; replace HO := HO.call hbc; clear hbc r1 r8 k0 k15 k16 k17 k18 k19 k20; obtain ⟨r1, r8, k0, k15, k16, k17, k18, k19, k20⟩ := HA.out _ _ (HO.at 0 rfl))
  | fail)
  all_goals
   go_meet
   refine ⟨congrArg Value.bool ?_, Yq HO⟩
   unfold bareE
   rw [Hpo.out, Hpn.out]
   first | (simp [Val.z0, *]; done) | (have e : 0 < ro.size + rn.size := (by omega); rw [Val.z0 (ro.size + rn.size), decide_eq_true e]; simp [Val.z0, *]; done) | (have e : ¬ 0 < ro.size + rn.size := (by omega); rw [Val.z0 (ro.size + rn.size), decide_eq_false e]; simp [Val.z0, *]; done)
 obtain ⟨rfl, HO1⟩ := hcut
 clear hsum r1 r8 k0 k15 k16 k17 k18 k19 k20 HO HNo HNn
 replace HO := HO1.out
 clear HO1
 obtain ⟨r1, r8, k0, k15, k16, k17, k18, k19, k20⟩ := HA.out _ _ (HO.at 0 rfl)
 cases hb : bareE 2 o n ns1 r ro rn ns2 ns3 with
 | false =>
  have hR : RES = false := by have h := HRES.out; simpa [hb] using h
  go_wp2_with fail
  go_ret
  exact ⟨ret_bool (by first | rfl | exact hR.symm), HO.below⟩
 | true =>
  have HRF : Hid (RES = (efields 0 f && (decide (r = decide (ro ≠ rn)) && ((r || decide (ro.size = 0)) && (r || decide (f ≠ [])))))) := Yq (by have h := HRES.out; simpa only [hb, Bool.true_and] using h)
  have HO1 := Yq HO
  clear HRES hb HO
  go_wp2_with fail
  clear r1 r8 k0 k15 k16 k17 k18 k19 k20
  go_simp
  go_loopw [106] (fun i wr => ∃ (k : Nat), k ≤ ns1 ∧ i = .int .i64 k ∧ Hid (efields 0 f = efields (Val.lastEF f k) (f.drop k)) ∧ Hid (0 ≤ Val.lastEF f k) ∧ Hid (Own w [(g1, ec)] wr)) (fun i _ => ns1 - (intOf i).toNat)
  case atStart => exact ⟨0, Nat.zero_le _, rfl, Yq rfl, Yq (Int.le_refl _), HO1⟩
  case round =>
   obtain ⟨k, hkn, rfl, HI, Hl0, HO⟩ := hrel
   replace HO := HO.out
   by_cases hlt : k < ns1
   ·have hks : k < fe.length := by rw [Hn1.out]; exact hlt
    have hkf : k < f.length := by rw [← Hm1.out, Hn1.out]; exact hlt
    obtain ⟨b0, o0, hb0, hidx, hcell⟩ := FlatC.at (n := ns1) (cap := c1) (a := a1) HX1.out.1 (by decide) (i := k) hks Tryz.underlying48 sizeREF
    have hr : wr.rangeAt b0 o0 fe[k] := range_below hcell HO.below hb0
    obtain ⟨exc, hx, rx⟩ := HX1.out.2.at hkf hks
    rw [hx] at hr
    have HL8 : Hid ((Value.int .i64 f[k].1 :: exc).length = 22) := (rx.shape.cons f[k].1).1
    have H1 : Hid (∀ u ∈ Value.int .i64 f[k].1 :: exc, u.oneCell' = true) := (rx.shape.cons f[k].1).2
    have HK1 : Hid ((Value.int .i64 f[k].1 :: exc)[1]? = some (.int .i64 f[k].2.kind)) := Yq (by simpa using rx.k0)
    have HLe := Yq rx.shape.len
    have HR := Yq (fun (w0 : World) (hb : Below w.heap.size w w0) => ih f[k].2 exc w0 (HS1.out _ (List.getElem_mem hkf)) (HM1.out _ (List.getElem_mem hkf)) (HV1.out _ (List.getElem_mem hkf)) (rx.mono (below_le hb)))
    have hnx := Val.efields_next (m := Val.lastEF f k) hkf
    have HLs := Yq (Val.lastEF_succ hkf)
    have HPv : Hid (∀ (j : Nat), k = j + 1 → ∃ b1 o1, b1 < w.heap.size ∧ (∀ w', (Instr.indexAt 48 (.slice a1 ns1 c1) (.int .i64 ((k : Int) - 1))).run Tryz.prog w' = .ok (.pointer (some ⟨b1, o1, none⟩)) w') ∧ w.cell? ⟨b1, o1, none⟩ = some (.int .i64 (Val.lastEF f k))) := fun j hj => by
     subst hj
     have hjs : j < fe.length := by omega
     have hjf : j < f.length := by omega
     obtain ⟨b1, o1, hb1, hi1, hc1⟩ := FlatC.at (n := ns1) (cap := c1) (a := a1) HX1.out.1 (by decide) (i := j) hjs Tryz.underlying48 sizeREF
     obtain ⟨zc, hz, rz⟩ := HX1.out.2.at hjf hjs
     refine ⟨b1, o1, hb1, ?_, ?_⟩
     ·rw [show (((j + 1 : Nat)) : Int) - 1 = (j : Int) by omega]; exact hi1
     ·rw [Val.lastEF_succ hjf]; exact hc1 0 _ (by rw [hz]; rfl)
    clear hcell hx rx
    generalize eright f[k].2 = re at *
    generalize f[k].2.kind = ek at *
    generalize f[k].1 = num at *
    generalize f[k].2 = ex at *
    have Hl00 : Hid (k = 0 → Val.lastEF f k = 0) := Yq (fun h => by rw [h]; rfl)
    generalize hla : Val.lastEF f k = la at *
    rw [hnx] at HI
    clear hnx hks hkf hla
    go_upto_region 12 with (first
   | ((with_reducible refine atOp (.load 76 _) ?_); refine wpList_load_seg rfl 76 _ rfl _ _ rfl _ _ hr Tryz.underlying76 rfl (iC infoREF HL8) ?_)
   | ((with_reducible refine atOp (.alloc 76) ?_); refine wpList_alloc_own rfl 76 rfl (.int .i64 0 :: zE) zeroREF HO ?_; clear HO; intro w6 g4 HO)
   | ((with_reducible refine atOp (.store 76 _ _) ?_); refine wpList_store_own 0 rfl 76 _ _ rfl _ 0 (Value.int .i64 num :: exc) rfl rfl HO rfl (iC infoREF HL8) (by rw [HL8.out]; decide) H1.out (patch_whole' _ _ (by rw [HL8.out]; rfl)) ?_; clear HO hr hidx; intro w5 HO)
   | fail)
    go_simp
    have n0 : w5.cell? ⟨g4, 0, none⟩ = some (.int .i64 num) := (HO.at 0 rfl).cell rfl
    have n1 : w5.cell? ⟨g4, 1, none⟩ = some (.int .i64 ek) := (HO.at 0 rfl).cell HK1.out
    obtain ⟨_, _, _, q3, _, _, _, _, _⟩ := HA.out _ _ (HO.at 1 rfl)
    have Hfl : Hid (efields 0 f = false → RES = false) := Yq (fun h => by rw [HRF.out, h, Bool.false_and])
    have hb5 := HO.below
    by_cases h1 : num < 1
    ·have d1 : decide (num < 1) = true := decide_eq_true h1
     have hR : Hid (RES = false) := Yq (Hfl.out (by rw [HI.out, decide_eq_false (by have := Hl0.out; omega), Bool.false_and, Bool.false_and]))
     go_quiet (fail)
     go_wp2_with fail
     go_ret
     exact ⟨ret_bool (by first | rfl | exact hR.out.symm), Below.drewN hb5 _⟩
    ·have d1 : decide (num < 1) = false := decide_eq_false h1
     by_cases h2 : 536870911 < num
     ·have d2 : decide (536870911 < num) = true := decide_eq_true h2
      have hR : Hid (RES = false) := Yq (Hfl.out (by rw [HI.out, decide_eq_false (by omega), Bool.false_and, Bool.false_and]))
      go_quiet (fail)
      go_wp2_with fail
      go_ret
      exact ⟨ret_bool (by first | rfl | exact hR.out.symm), Below.drewN hb5 _⟩
     ·have d2 : decide (536870911 < num) = false := decide_eq_false h2
      have Hnum : Hid (1 ≤ num ∧ num ≤ 536870911) := Yq (by omega)
      clear h1 h2
      by_cases hk0 : k = 0
      ·subst hk0
       have y2 : decide ((0 : Int) < ((0 : Nat) : Int)) = false := rfl
       have Hla : Hid (la < num) := Yq (by have h := Hl00.out rfl; have := Hnum.out; omega)
       by_cases h4 : ek = 0
       ·have d4 : (ek == 0) = true := by simp [h4]
        have hR : Hid (RES = false) := Yq (Hfl.out (by rw [HI.out, decide_eq_false (by omega), Bool.false_and, Bool.false_and]))
        have H4 := Yq h4; clear h4
        go_quiet (fail)
        go_wp2_with fail
        go_ret
        exact ⟨ret_bool (by first | rfl | exact hR.out.symm), Below.drewN hb5 _⟩
       ·have d4 : (ek == 0) = false := by simp [h4]
        have Hdc : Hid (decide (la < num ∧ num ≤ 536870911 ∧ ek ≠ 0) = true) := Yq (decide_eq_true ⟨Hla.out, Hnum.out.2, h4⟩)
        have H4 := Yq h4; clear h4
        have p1 : w5.rangeAt g4 1 exc := (HO.at 0 rfl).range (p := [.int .i64 num]) (q := exc) (r := []) (by simp) rfl
        have hb6 := hb5.drew
        have HOd := Yq HO.drew
        go_wp2_with fail
        refine wp_region_still_tail 33 (by kernel_rfl) (by kernel_rfl) ?_
        change wpStill _ _ (World.drew _) _ _ _
        simp only [List.take_succ_cons, List.take_zero, List.drop_succ_cons, List.drop_zero]
        refine wpStill_of_quiet ?_
        iterate 32 go_big_quiet_step (fail)
        refine wpQuiet_load_seg rfl 52 _ rfl g4 1 rfl exc _ p1 Tryz.underlying52 rfl (iC infoRE HLe) ?_
        refine wpQuiet_nil ?_
        change wpList _ _ _ _ _ (World.drew _)
        cases re with
        | false =>
         have hR : Hid (RES = false) := Yq (Hfl.out (by rw [HI.out, Bool.and_false, Bool.false_and]))
         go_wp2_with (go_at_call 20; (with_reducible refine (HR.out _ hb6).mono ?_); rintro e w7 ⟨rfl, hbc⟩)
         go_ret
         exact ⟨ret_bool (by first | rfl | exact hR.out.symm), hb6.trans (hbc.mono hb6.size)⟩
        | true =>
         go_wp2_with (go_at_call 20; (with_reducible refine (HR.out _ hb6).mono ?_); rintro e w7 ⟨rfl, hbc⟩)
         go_roundw
         case rel => exact ⟨0 + 1, by omega, by go_num, Yq (by rw [HLs.out, HI.out, Hdc.out]; simp), Yq (by rw [HLs.out]; have := Hnum.out; omega), Yq ((HOd.out.call hbc).sub (.cons _ (List.Sublist.refl _)))⟩
         case measure => simp [intOf]; omega
      ·obtain ⟨j, hj⟩ : ∃ j, k = j + 1 := ⟨k - 1, by omega⟩
       obtain ⟨b1, o1, hb1, hidx1, hp1⟩ := HPv.out j hj
       have q7 : w5.cell? ⟨b1, o1, none⟩ = some (.int .i64 la) := (hb5.cell hb1).trans hp1
       have y1 : (0 : Int) < (k : Int) := by omega
       have y2 : decide ((0 : Int) < (k : Int)) = true := decide_eq_true y1
       have y4 : 0 < k := by omega
       have y3 : (k : Int) - 1 < (ns1 : Int) := by omega
       have hwr : IntKind.i64.wrap ((k : Int) - 1) = (k : Int) - 1 := IntWalk.i64_in _ (by omega)
       clear hj hp1 hk0
       by_cases h3 : num ≤ la
       ·have d3 : decide (num ≤ la) = true := decide_eq_true h3
        have d3b : decide (la ≥ num) = true := decide_eq_true h3
        have hR : Hid (RES = false) := Yq (Hfl.out (by rw [HI.out, decide_eq_false (by omega), Bool.false_and, Bool.false_and]))
        go_quiet (fail)
        go_wp2_with fail
        go_ret
        exact ⟨ret_bool (by first | rfl | exact hR.out.symm), Below.drewN hb5 _⟩
       ·have d3 : decide (num ≤ la) = false := decide_eq_false h3
        have d3b : decide (la ≥ num) = false := decide_eq_false h3
        have Hla : Hid (la < num) := Yq (by omega)
        clear h3
        by_cases h4 : ek = 0
        ·have d4 : (ek == 0) = true := by simp [h4]
         have hR : Hid (RES = false) := Yq (Hfl.out (by rw [HI.out, decide_eq_false (by omega), Bool.false_and, Bool.false_and]))
         have H4 := Yq h4; clear h4
         go_quiet (fail)
         go_wp2_with fail
         go_ret
         exact ⟨ret_bool (by first | rfl | exact hR.out.symm), Below.drewN hb5 _⟩
        ·have d4 : (ek == 0) = false := by simp [h4]
         have Hdc : Hid (decide (la < num ∧ num ≤ 536870911 ∧ ek ≠ 0) = true) := Yq (decide_eq_true ⟨Hla.out, Hnum.out.2, h4⟩)
         have H4 := Yq h4; clear h4
         have p1 : w5.rangeAt g4 1 exc := (HO.at 0 rfl).range (p := [.int .i64 num]) (q := exc) (r := []) (by simp) rfl
         have hb6 := hb5.drew
         have HOd := Yq HO.drew
         go_wp2_with fail
         refine wp_region_still_tail 33 (by kernel_rfl) (by kernel_rfl) ?_
         change wpStill _ _ (World.drew _) _ _ _
         simp only [List.take_succ_cons, List.take_zero, List.drop_succ_cons, List.drop_zero]
         refine wpStill_of_quiet ?_
         iterate 32 go_big_quiet_step (fail)
         refine wpQuiet_load_seg rfl 52 _ rfl g4 1 rfl exc _ p1 Tryz.underlying52 rfl (iC infoRE HLe) ?_
         refine wpQuiet_nil ?_
         change wpList _ _ _ _ _ (World.drew _)
         cases re with
         | false =>
          have hR : Hid (RES = false) := Yq (Hfl.out (by rw [HI.out, Bool.and_false, Bool.false_and]))
          go_wp2_with (go_at_call 20; (with_reducible refine (HR.out _ hb6).mono ?_); rintro e w7 ⟨rfl, hbc⟩)
          go_ret
          exact ⟨ret_bool (by first | rfl | exact hR.out.symm), hb6.trans (hbc.mono hb6.size)⟩
         | true =>
          go_wp2_with (go_at_call 20; (with_reducible refine (HR.out _ hb6).mono ?_); rintro e w7 ⟨rfl, hbc⟩)
          go_roundw
          case rel => exact ⟨k + 1, by omega, by go_num, Yq (by rw [HLs.out, HI.out, Hdc.out]; simp), Yq (by rw [HLs.out]; have := Hnum.out; omega), Yq ((HOd.out.call hbc).sub (.cons _ (List.Sublist.refl _)))⟩
          case measure => simp [intOf]; omega
   ·obtain rfl : k = ns1 := by omega
    have HF1 : Hid (efields 0 f = true) := Yq (by rw [HI.out, List.drop_of_length_le (by rw [← Hm1.out, Hn1.out]; exact Nat.le_refl _), efields])
    have HR2 : Hid (RES = if r then decide (ro ≠ rn) else (decide (0 < k) && decide (ro.size + rn.size = 0))) := Yq (by
     rw [HRF.out, HF1.out, Bool.true_and, Val.restB, ← Hm1.out, Hn1.out])
    have HO1 := Yq HO
    obtain ⟨r1, r8, k0, k15, k16, k17, k18, k19, k20⟩ := HA.out _ _ (HO.at 0 rfl)
    have hq : Hid (decide (ro ≠ rn) = !(ro.toList == rn.toList)) := Yq (by rw [toList_beq]; simp)
    have hz : Hid ((((ro.size : Int) + (rn.size : Int)) == 0) = decide (ro.size + rn.size = 0)) := Yq (by
     by_cases h : ro.size + rn.size = 0
     ·rw [decide_eq_true h, beq_iff_eq]; omega
     ·rw [decide_eq_false h, beq_eq_false_iff_ne]; omega)
    have hsum : IntKind.i64.wrap ((ro.size : Int) + (rn.size : Int)) = (ro.size : Int) + (rn.size : Int) := IntWalk.i64_in _ (by omega)
    clear HO HI hlt Hl0
    cases r with
    | true =>
     have hR : Hid (RES = !(ro.toList == rn.toList)) := Yq (by rw [HR2.out, if_pos rfl, hq.out])
     go_wp2_with fail
     all_goals
      go_ret
      exact ⟨ret_bool (by first | rfl | exact hR.out.symm | (have h := hR.out; simp_all; done)), HO1.out.below⟩
    | false =>
     have hR : Hid (RES = (decide (0 < k) && decide (ro.size + rn.size = 0))) := Yq (by rw [HR2.out, if_neg (by decide)])
     clear HR2
     go_wp2_with fail
     all_goals
      go_ret
      refine ⟨ret_bool ?_, HO1.out.below⟩
      first | rfl | (rw [hR.out, hz.out, decide_eq_true (show 0 < k by omega), Bool.true_and]; done) | (rw [hR.out]; first | (simp [*]; done) | (have e : ro.size + rn.size = 0 := (by omega); rw [decide_eq_true e]; simp [*]; done) | (have e : ¬ ro.size + rn.size = 0 := (by omega); rw [decide_eq_false e]; simp [*]; done) | (have e : ro.size + rn.size = 0 := (by simp_all); rw [decide_eq_true e]; simp [*]; done))
end Go.Proofs.YtebekgdjknenlaaGreatDoor
