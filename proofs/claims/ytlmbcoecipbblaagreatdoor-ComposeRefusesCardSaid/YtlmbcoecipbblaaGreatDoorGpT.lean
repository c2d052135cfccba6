/- ComposeRefuses: what its other calls answer, told to the engine. -/
import Derived.Test.YtlmbcoecipbblaaGreatDoorEC14
import Derived.Test.YtlmbcoecipbblaaGreatDoorEC15
import Derived.Test.YtlmbcoecipbblaaGreatDoorGpQ
import Derived.Test.YtlmbcoecipbblaaGreatDoorEGr21
import Derived.Test.YtlmbcoecipbblaaGreatDoorGpS
set_option maxRecDepth 100000
set_option maxHeartbeats 8000000
set_option linter.unusedVariables false
set_option linter.unusedSimpArgs false
namespace Go.Proofs.YtlmbcoecipbblaaGreatDoor
open Go.RowKit
open Val (V E right cmp eright ado Res avalue esm esmF esmS esmK vmx esz eszF eszS eszK e0 swapE swapF PairP inv ge)
def erC (A : Nat → Addr) : Errs := ⟨183, .pointer (some (A 8)), 183, .pointer (some (A 11)), 183, .pointer (some (A 12))⟩
def gN (A : Nat → Addr) : List (Nat × List DV) := ((List.range 19).map fun i => (gOf i, [.lit (errV (A i))])) ++ (List.range 19).map fun i => ((A i).block, [])
theorem gN_c (A : Nat → Addr) {i : Nat} (h : i < 19) : (gOf i, [.lit (errV (A i))]) ∈ gN A := List.mem_append_left _ (List.mem_map.2 ⟨i, List.mem_range.2 h, rfl⟩)
theorem gN_b (A : Nat → Addr) {i : Nat} (h : i < 19) : ((A i).block, ([] : List DV)) ∈ gN A := List.mem_append_right _ (List.mem_map.2 ⟨i, List.mem_range.2 h, rfl⟩)
theorem gO_gN (A : Nat → Addr) : ∀ x ∈ gO (erC A) (errV (A 2)), x ∈ gN A := fun x hx => by
 simp only [gO, gE, List.mem_cons, List.not_mem_nil, or_false] at hx
 rcases hx with rfl | rfl | rfl | rfl
 ·exact gN_c A (i := 2) (by decide)
 ·exact gN_c A (i := 8) (by decide)
 ·exact gN_c A (i := 11) (by decide)
 ·exact gN_c A (i := 12) (by decide)
theorem ne_of_gl {A : Nat → Addr} {w : World} {F : List (Option Nat)} (hd : ∀ i j, i < 19 → j < 19 → i ≠ j → A i ≠ A j) (h : ∀ g cs, (g, cs) ∈ gN A → GlR (fragE w F) g cs) : NE A w :=
 ⟨fun i hi => cell_of_gl (fragE_le w F) (h _ _ (gN_c A hi)), fun i hi => by
  obtain ⟨cur, t, fr, ws, h1, h2, h3, h4⟩ := h _ _ (gN_b A hi)
  rw [h4 rfl] at h1
  exact ⟨cur, t, fragE_le w F _ _ h1⟩, hd⟩
def nOfC : Res E → Int
 | .ok _ => 0
 | .bad b => b
theorem cnum_run {A : Nat → Addr} (hd : ∀ i j, i < 19 → j < 19 → i ≠ j → A i ≠ A j) {r : Res E} (hr : ∀ b, r = .bad b → b = 3 ∨ b = 9 ∨ b = 12 ∨ b = 13) {c : List DV} {ev : DV} (h : ENr (erC A) (errV (A 2)) r c ev) (fr : List Nat) :
  PRun Tryz.prog (gN A) 8 [.d fun _ => ev] [] fr (.d fun _ => .lit (.int .i64 (nOfC r))) [] := by
 refine PRun.old ⟨_, Tryz.func8, rfl, by kernel_rfl⟩ (fun F w N vs hF hG hA => ?_)
 have hne := ne_of_gl hd hG
 rw [PVRs] at hA
 obtain ⟨v, vs, rfl, h1, h2⟩ := hA
 rw [PVRs] at h2; subst h2
 have key : ∀ (x : Value) (n : Int), ev = .lit x → nOfC r = n → (Calls Tryz.prog 8 #[x] w fun e w' => e = .returned (.int .i64 n) ∧ Below w.heap.size w w') →
   Calls Tryz.prog 8 [v].toArray w fun e w' => Below w.heap.size w w' ∧ ∃ v, e = .returned v ∧ PVR N (fragE w' F) (.d fun _ => .lit (.int .i64 (nOfC r))) v := fun x n e1 e2 hc => by
  rw [PVR, e1, DR] at h1
  rw [h1.1]
  refine hc.mono ?_
  rintro e w' ⟨rfl, hb⟩
  exact ⟨hb, _, rfl, by rw [e2, PVR, DR]; exact ⟨rfl, rfl⟩⟩
 cases r with
 | ok x => exact key .nilIface 0 h.2 rfl (num_nil w)
 | bad b =>
  rcases hr b rfl with rfl | rfl | rfl | rfl
  ·exact key _ 3 h.2 rfl (num_err A w hne 2 (by decide))
  ·exact key _ 9 h.2 rfl (num_err A w hne 8 (by decide))
  ·exact key _ 12 h.2 rfl (num_err A w hne 11 (by decide))
  ·exact key _ 13 h.2 rfl (num_err A w hne 12 (by decide))
def tV (s : ByteArray) : V := .mk 2 0 s [] ByteArray.empty [] []
def swX (a b : V) : E := .mk 1 a b [] false ByteArray.empty ByteArray.empty [] []
def tA : V := tV ⟨#[97]⟩
def tB : V := tV ⟨#[98]⟩
def tC : V := tV ⟨#[99]⟩
theorem prC_sw {er : Errs} {fn : FuncId} {d e : E} (h : CoE er fn d e) (h1 : d.kind = 1) (h2 : ¬ e.kind = 0) : prC er fn d e = swapF d e d.new := by
 unfold prC
 rw [dif_pos h]
 obtain ⟨c, ev, _, h4, _⟩ := h.choose_spec
 exact h4 h1 h2
theorem esm_sw (a b : V) : esm (swX a b) := by unfold swX; rw [esm]; exact ⟨⟨by decide, by decide⟩, by rw [esmF]; trivial, by rw [esmS]; trivial, by rw [esmK]; trivial⟩
theorem vmx_t (s : ByteArray) : vmx (tV s) = 0 := by unfold tV; rw [Val.vmx]; rfl
theorem esz_sw (s t : ByteArray) : esz (swX (tV s) (tV t)) = 0 := by unfold swX; rw [esz, vmx_t, vmx_t]; rfl
theorem er_ab : eright (swX tA tB) = true := by kernel_rfl
theorem er_bc : eright (swX tB tC) = true := by kernel_rfl
theorem er_ba : eright (swX tB tA) = true := by kernel_rfl
theorem er_ac : eright (swX tA tC) = true := by kernel_rfl
theorem sw_abc : swapF (swX tA tB) (swX tB tC) tB = .ok (swX tA tC) := by kernel_rfl
theorem sw_aba : swapF (swX tA tB) (swX tB tA) tB = .ok e0 := by kernel_rfl
theorem ofA_sw {er : Errs} {a b c : ByteArray} {x : E} (h1 : eright (swX (tV a) (tV b)) = true) (h2 : eright (swX (tV b) (tV c)) = true) (h3 : swapF (swX (tV a) (tV b)) (swX (tV b) (tV c)) (tV b) = .ok x) (h4 : eright x = true) (h5 : ¬ 65536 < szE x) : ofA er (swX (tV a) (tV b)) (swX (tV b) (tV c)) = .ok x := by
 have hco := co_all er _ (swX (tV a) (tV b)) (swX (tV b) (tV c)) (Nat.lt_succ_self _) ⟨h1, h2, esm_sw _ _, esm_sw _ _, by rw [esz_sw, esz_sw]; decide⟩
 have hp := prC_sw hco rfl (show ¬ (1 : Int) = 0 by decide)
 rw [ofA, if_pos ⟨h1, h2⟩, hp]
 rw [show (swX (tV a) (tV b)).new = tV b from rfl, h3]
 simp only
 rw [if_pos h4, if_neg h5]
theorem alive25_run {A : Nat → Addr} (fr : List Nat) : PRun Tryz.prog (gN A) 4 [] [] fr (.d fun _ => .lit (.bool true)) [] := by
 obtain ⟨c1, ev1, h1, H1⟩ := cof_run (erC A) (errV (A 2)) rfl (swX tA tB) (swX tB tC) (esm_sw _ _) (esm_sw _ _) (by unfold tA tB tC; rw [esz_sw, esz_sw]; decide)
 rw [show ofA (erC A) (swX tA tB) (swX tB tC) = .ok (swX tA tC) from ofA_sw er_ab er_bc sw_abc er_ac (by unfold szE; decide)] at h1
 obtain ⟨hc1, rfl⟩ := h1
 obtain ⟨c2, ev2, h2, H2⟩ := cof_run (erC A) (errV (A 2)) rfl (swX tA tB) (swX tB tA) (esm_sw _ _) (esm_sw _ _) (by unfold tA tB; rw [esz_sw, esz_sw]; decide)
 rw [show ofA (erC A) (swX tA tB) (swX tB tA) = .ok e0 from ofA_sw er_ab er_ba sw_aba (by decide) (by decide)] at h2
 obtain ⟨hc2, rfl⟩ := h2
 obtain ⟨d1, hd1⟩ : ∃ l, l = encE (swX tA tB) := ⟨_, rfl⟩
 obtain ⟨d2, hd2⟩ : ∃ l, l = encE (swX tB tC) := ⟨_, rfl⟩
 obtain ⟨d3, hd3⟩ : ∃ l, l = encE (swX tB tA) := ⟨_, rfl⟩
 replace H1 := fun fr => (H1 d1 d2 hd1 hd2 fr).more (gO_gN A)
 replace H2 := fun fr => (H2 d1 d3 hd1 hd3 fr).more (gO_gN A)
 obtain ⟨va, hva⟩ : ∃ l, l = encV tA := ⟨_, rfl⟩
 obtain ⟨vc, hvc⟩ : ∃ l, l = encV tC := ⟨_, rfl⟩
 have HA := fun fr => same_run (G := gN A) hva hva fr
 have HC := fun fr => same_run (G := gN A) hvc hvc fr
 rw [Val.cmp_refl] at HA HC
 have k1 : cellAt c1 0 = .lit (.int .i64 1) := by rw [hc1]; exact (cE _).1
 have k2 : cellAt c2 0 = .lit (.int .i64 0) := by rw [hc2]; exact (cE _).1
 obtain ⟨G, hG⟩ : ∃ G, G = gN A := ⟨_, rfl⟩
 rw [← hG] at H1 H2 HA HC ⊢
 clear hG
 refine PRun.pure (xs := []) (r1 := .d fun _ => .lit (.bool true)) tI_ok (by kernel_rfl) Tryz.func4 rfl rfl (by kernel_rfl) ?_
 repeat with_reducible refine jR trivial ?_
 with_reducible apply hCallL
 ·exact H1 _
 ·with_reducible refine jR trivial ?_
  simp only [hd1, hd2, swX, tA, tB, tC, tV, cE21, cV, eZ, eS]
 repeat with_reducible refine jR trivial ?_
 with_reducible apply hCallL
 ·exact H2 _
 ·with_reducible refine jR trivial ?_
  simp only [hd1, hd3, swX, tA, tB, tC, tV, cE21, cV, eZ, eS]
 repeat with_reducible refine jR (cellQ k1) ?_
 with_reducible apply hCallL
 ·exact HA _
 ·with_reducible refine jR trivial ?_
  simp only [hc1, hva, swX, tA, tB, tC, tV, cE21, cV, eZ, eS]
 repeat with_reducible refine jR trivial ?_
 with_reducible apply hCallL
 ·exact HC _
 ·with_reducible refine jR trivial ?_
  simp only [hc1, hvc, swX, tA, tB, tC, tV, cE21, cV, eZ, eS]
 repeat with_reducible refine jR (cellQ k2) ?_
 with_reducible refine jE trivial ?_
 trivial
theorem cr_bounds {x : E} (h : ¬ ge x 60 20 < 0) : esm x ∧ esz x ≤ 12000 := by
 have := Val.ge_esz x 60 20 (by decide) (by omega)
 exact ⟨this.2, by have := this.1; omega⟩
theorem ofA_nums {er : Errs} {d e : E} (hmd : esm d) (hme : esm e) (hsz : esz d + esz e ≤ 30000) : (∀ b, ofA er d e = .bad b → b = 3 ∨ b = 9 ∨ b = 12 ∨ b = 13) ∧ (ofA er d e = .bad 9 ↔ ¬ (eright d = true ∧ eright e = true)) ∧ ∀ x, ofA er d e = .ok x → eright x = true ∧ ¬ 65536 < szE x ∧ esm x ∧ esz x ≤ 90000 := by
 unfold ofA
 by_cases h : eright d = true ∧ eright e = true
 ·rw [if_pos h]
  have hp := (prC_ok (co_all er _ d e (Nat.lt_succ_self _) ⟨h.1, h.2, hmd, hme, hsz⟩)).1
  cases hq : prC er 17 d e with
  | bad b =>
   rw [hq] at hp
   have := hp.1 b rfl
   simp only
   refine ⟨fun b' hb => (by cases hb; omega), ⟨fun hb => (by cases hb; omega), fun hn => absurd h hn⟩, fun x hx => (by cases hx)⟩
  | ok x =>
   rw [hq] at hp
   have hx := hp.2 x rfl
   simp only
   split
   ·split
    ·exact ⟨fun b hb => (by cases hb; exact .inl rfl), ⟨fun hb => (by cases hb), fun hn => absurd h hn⟩, fun x hx => (by cases hx)⟩
    ·rename_i h1 h2
     exact ⟨fun b hb => (by cases hb), ⟨fun hb => (by cases hb), fun hn => absurd h hn⟩, fun y hy => (by cases hy; exact ⟨h1, h2, hx.1, by omega⟩)⟩
   ·exact ⟨fun b hb => (by cases hb; exact .inr (.inr (.inl rfl))), ⟨fun hb => (by cases hb), fun hn => absurd h hn⟩, fun x hx => (by cases hx)⟩
 ·rw [if_neg h]
  exact ⟨fun b hb => (by cases hb; exact .inr (.inl rfl)), ⟨fun _ => h, fun _ => rfl⟩, fun x hx => (by cases hx)⟩
theorem zE21 {c : List DV} (h : c = zEd) : cellAt c 0 = .lit (.int .i64 0) ∧ cellAt c 1 = .lit (.int .i64 0) ∧ cellAt c 2 = .lit (.int .u64 0) ∧ cellAt c 3 = .lit (.string ByteArray.empty) ∧ cellAt c 4 = .lit (.slice none 0 0) ∧ cellAt c 5 = .lit (.string ByteArray.empty) ∧ cellAt c 6 = .lit (.slice none 0 0) ∧ cellAt c 7 = .lit (.slice none 0 0) ∧
  cellAt c 8 = .lit (.int .i64 0) ∧ cellAt c 9 = .lit (.int .u64 0) ∧ cellAt c 10 = .lit (.string ByteArray.empty) ∧ cellAt c 11 = .lit (.slice none 0 0) ∧ cellAt c 12 = .lit (.string ByteArray.empty) ∧ cellAt c 13 = .lit (.slice none 0 0) ∧ cellAt c 14 = .lit (.slice none 0 0) ∧
  cellAt c 15 = .lit (.slice none 0 0) ∧ cellAt c 16 = .lit (.bool false) ∧ cellAt c 17 = .lit (.string ByteArray.empty) ∧ cellAt c 18 = .lit (.string ByteArray.empty) ∧ cellAt c 19 = .lit (.slice none 0 0) ∧ cellAt c 20 = .lit (.slice none 0 0) := by
 subst h; and_intros <;> rfl
theorem en_nil {er : Errs} {lg : Value} {r : Res E} {c : List DV} {ev : DV} (h : ENr er lg r c ev) (hl : ∃ t v, lg = .iface t v) : ∃ b, (bopD .ifc .neq ev (.lit .nilIface) = some (.lit (.bool b)) ∧ BopOk .ifc .neq ev (.lit .nilIface) = True) ∧ (b = true → ∃ n, r = .bad n ∧ c = zEd) ∧ (b = false → ∃ x, r = .ok x ∧ c = encE x) := by
 cases r with
 | bad n =>
  obtain ⟨rfl, rfl⟩ := h
  obtain ⟨t, v, hev⟩ : ∃ t v, (if n = 3 then lg else er.of n) = .iface t v := by
   split
   ·exact hl
   ·exact er_face er n
  have q : bopD .ifc .neq (.lit (if n = 3 then lg else er.of n)) (.lit .nilIface) = some (.lit (.bool true)) := by rw [hev]; simp [bopD, bopV]
  exact ⟨true, ⟨q, eq_T ⟨_, q⟩⟩, fun _ => ⟨n, rfl, rfl⟩, fun e => (by cases e)⟩
 | ok x =>
  obtain ⟨rfl, rfl⟩ := h
  have q : bopD .ifc .neq (.lit .nilIface) (.lit .nilIface) = some (.lit (.bool false)) := by simp [bopD, bopV]
  exact ⟨false, ⟨q, eq_T ⟨_, q⟩⟩, fun e => (by cases e), fun _ => ⟨x, rfl, rfl⟩⟩
theorem refuses_run {A : Nat → Addr} (hd : ∀ i j, i < 19 → j < 19 → i ≠ j → A i ≠ A j) (d e : E) (dc ec : List DV) (hdc : dc = encE d) (hec : ec = encE e) (fr : List Nat) :
  PRun Tryz.prog (gN A) 3 [.agg (cellsP 21 dc), .agg (cellsP 21 ec)] [] fr (.d fun _ => .lit (.bool true)) [] := by
 have HL := fun fr => alive25_run (A := A) fr
 have HG1 := fun fr => great21_run (G := gN A) hdc 60 (by decide) (by decide) fr
 have HG2 := fun fr => great21_run (G := gN A) hec 60 (by decide) (by decide) fr
 obtain ⟨G, hG⟩ : ∃ G, G = gN A := ⟨_, rfl⟩
 rw [← hG] at HL HG1 HG2 ⊢
 refine PRun.pure (xs := [.agg (cellsP 21 dc), .agg (cellsP 21 ec)]) (r1 := .d fun _ => .lit (.bool true)) tI_ok (by kernel_rfl) Tryz.func3 rfl rfl (by kernel_rfl) ?_
 by_cases g1 : ge d 60 20 < 0
 ·rw [decide_eq_true g1] at HG1
  repeat with_reducible refine jR trivial ?_
  (with_reducible apply hCall); exact HL _; with_reducible refine jR trivial ?_
  repeat with_reducible refine jR trivial ?_
  (with_reducible apply hCall); exact HG1 _; with_reducible refine jR trivial ?_
  repeat with_reducible refine jR trivial ?_
  with_reducible refine jE trivial ?_
  trivial
 rw [decide_eq_false g1] at HG1
 by_cases g2 : ge e 60 20 < 0
 ·rw [decide_eq_true g2] at HG2
  repeat with_reducible refine jR trivial ?_
  (with_reducible apply hCall); exact HL _; with_reducible refine jR trivial ?_
  repeat with_reducible refine jR trivial ?_
  (with_reducible apply hCall); exact HG1 _; with_reducible refine jR trivial ?_
  repeat with_reducible refine jR trivial ?_
  (with_reducible apply hCall); exact HG2 _; with_reducible refine jR trivial ?_
  repeat with_reducible refine jR trivial ?_
  with_reducible refine jE trivial ?_
  trivial
 rw [decide_eq_false g2] at HG2
 obtain ⟨hmd, hzd⟩ := cr_bounds g1
 obtain ⟨hme, hze⟩ := cr_bounds g2
 obtain ⟨c, ev, hR, HOf⟩ := cof_run (erC A) (errV (A 2)) rfl d e hmd hme (by omega)
 replace HOf := fun fr => (HOf dc ec hdc hec fr).more (gO_gN A)
 obtain ⟨n1, n2, n3⟩ := ofA_nums (er := erC A) hmd hme (by omega)
 have HN := fun fr => cnum_run hd n1 hR fr
 have HW := fun fr => eof_all d (by omega) G dc hdc fr
 have HRd := fun fr => eright_run (G := G) hdc hmd fr
 have HRe := fun fr => eright_run (G := G) hec hme fr
 have HEq := fun fr => requal_all (esz d + 1) d (Nat.lt_succ_self _) (by omega) G dc hdc fr
 rw [← hG] at HOf HN
 obtain ⟨n, hn⟩ : ∃ n, n = nOfC (ofA (erC A) d e) := ⟨_, rfl⟩
 rw [← hn] at HN
 obtain ⟨b2, q2, y2, m2⟩ := en_nil hR ⟨_, _, rfl⟩
 have bt := beq_self_eq_true true; have bf := beq_self_eq_true false
 obtain ⟨zz, hzz⟩ : ∃ l, l = encE e0 := ⟨_, rfl⟩
 have HE0 := fun fr => equal0_run (G := G) hzz hzz fr
 by_cases hr : eright d = true ∧ eright e = true
 ·rw [hr.1] at HRd
  rw [hr.2] at HRe
  cases b2
  ·obtain ⟨x, hx, hcx⟩ := m2 rfl
   obtain ⟨rx, lx, mx, zx⟩ := n3 x hx
   have hn0 : n = 0 := by rw [hn, hx]; rfl
   have hn9 : ¬ n = 9 := by omega
   have HX := fun fr => eright_run (G := G) hcx mx fr
   rw [rx] at HX
   have HS := esize_all (esz x + 1) x (Nat.lt_succ_self _) (by omega) G c hcx
   have ls : szEn (esz x + 1) x ≤ 65536 := by unfold szE at lx; omega
   repeat with_reducible refine jR trivial ?_
   (with_reducible apply hCall); exact HL _; with_reducible refine jR trivial ?_
   repeat with_reducible refine jR trivial ?_
   (with_reducible apply hCall); exact HG1 _; with_reducible refine jR trivial ?_
   repeat with_reducible refine jR trivial ?_
   (with_reducible apply hCall); exact HG2 _; with_reducible refine jR trivial ?_
   repeat with_reducible refine jR trivial ?_
   (with_reducible apply hCall); exact HW _; with_reducible refine jR trivial ?_
   repeat with_reducible refine jR trivial ?_
   (with_reducible apply hCall); exact HOf _; with_reducible refine jR trivial ?_
   repeat with_reducible refine jR trivial ?_
   (with_reducible apply hCall); exact HN _; with_reducible refine jR hn9 ?_
   repeat with_reducible refine jR hn9 ?_
   (with_reducible apply hCall); exact HRd _; with_reducible refine jR (J2 bt bf) ?_
   repeat with_reducible refine jR (J2 bt bf) ?_
   (with_reducible apply hCall); exact HRe _; with_reducible refine jR (J2 bt bf) ?_
   repeat with_reducible refine jR (J2 bt bf) ?_
   (with_reducible apply hCall); exact HW _; with_reducible refine jR trivial ?_
   repeat with_reducible refine jR trivial ?_
   (with_reducible apply hCall); exact HEq _; with_reducible refine jR q2 ?_
   repeat with_reducible refine jR q2 ?_
   (with_reducible apply hCall); exact HX _; with_reducible refine jR trivial ?_
   repeat with_reducible refine jR trivial ?_
   (with_reducible apply hCall); exact HS _; with_reducible refine jR (eq_T ls) ?_
   repeat with_reducible refine jR (eq_T ls) ?_
   with_reducible refine jE trivial ?_
   trivial
  ·obtain ⟨b, hb, hcz⟩ := y2 rfl
   have hnb : n = (b : Int) := by rw [hn, hb]; rfl
   have hn9 : ¬ n = 9 := fun h => n2.1 (by rw [hb]; congr 1; omega) hr
   rcases n1 b hb with hb3 | hb9 | hb12 | hb13
   ·have hv : n = 3 := by rw [hnb, hb3]; rfl
    have h9 : ¬ n = 9 := by omega
    have h13 : ¬ n = 13 := by omega
    have h12 : ¬ n = 12 := by omega
    repeat with_reducible refine jR trivial ?_
    (with_reducible apply hCall); exact HL _; with_reducible refine jR trivial ?_
    repeat with_reducible refine jR trivial ?_
    (with_reducible apply hCall); exact HG1 _; with_reducible refine jR trivial ?_
    repeat with_reducible refine jR trivial ?_
    (with_reducible apply hCall); exact HG2 _; with_reducible refine jR trivial ?_
    repeat with_reducible refine jR trivial ?_
    (with_reducible apply hCall); exact HW _; with_reducible refine jR trivial ?_
    repeat with_reducible refine jR trivial ?_
    (with_reducible apply hCall); exact HOf _; with_reducible refine jR trivial ?_
    repeat with_reducible refine jR trivial ?_
    (with_reducible apply hCall); exact HN _; with_reducible refine jR hn9 ?_
    repeat with_reducible refine jR hn9 ?_
    (with_reducible apply hCall); exact HRd _; with_reducible refine jR (J2 bt bf) ?_
    repeat with_reducible refine jR (J2 bt bf) ?_
    (with_reducible apply hCall); exact HRe _; with_reducible refine jR (J2 bt bf) ?_
    repeat with_reducible refine jR (J2 bt bf) ?_
    (with_reducible apply hCall); exact HW _; with_reducible refine jR trivial ?_
    repeat with_reducible refine jR trivial ?_
    (with_reducible apply hCall); exact HEq _; with_reducible refine jR q2 ?_
    repeat with_reducible refine jR q2 ?_
    with_reducible apply hCallL
    ·exact HE0 _
    ·with_reducible refine jR trivial ?_
     simp only [zE21 hcz, hzz, e0, Val.v0, cE21, cV, eZ, eS]
    repeat with_reducible refine jR (J4 (eq_T hv) h9 h13 h12) ?_
    with_reducible refine jE trivial ?_
    trivial
   ·exact absurd (show n = 9 by rw [hnb, hb9]; rfl) hn9
   ·have hv : n = 12 := by rw [hnb, hb12]; rfl
    have h9 : ¬ n = 9 := by omega
    have h13 : ¬ n = 13 := by omega
    have h3 : ¬ n = 3 := by omega
    repeat with_reducible refine jR trivial ?_
    (with_reducible apply hCall); exact HL _; with_reducible refine jR trivial ?_
    repeat with_reducible refine jR trivial ?_
    (with_reducible apply hCall); exact HG1 _; with_reducible refine jR trivial ?_
    repeat with_reducible refine jR trivial ?_
    (with_reducible apply hCall); exact HG2 _; with_reducible refine jR trivial ?_
    repeat with_reducible refine jR trivial ?_
    (with_reducible apply hCall); exact HW _; with_reducible refine jR trivial ?_
    repeat with_reducible refine jR trivial ?_
    (with_reducible apply hCall); exact HOf _; with_reducible refine jR trivial ?_
    repeat with_reducible refine jR trivial ?_
    (with_reducible apply hCall); exact HN _; with_reducible refine jR hn9 ?_
    repeat with_reducible refine jR hn9 ?_
    (with_reducible apply hCall); exact HRd _; with_reducible refine jR (J2 bt bf) ?_
    repeat with_reducible refine jR (J2 bt bf) ?_
    (with_reducible apply hCall); exact HRe _; with_reducible refine jR (J2 bt bf) ?_
    repeat with_reducible refine jR (J2 bt bf) ?_
    (with_reducible apply hCall); exact HW _; with_reducible refine jR trivial ?_
    repeat with_reducible refine jR trivial ?_
    (with_reducible apply hCall); exact HEq _; with_reducible refine jR q2 ?_
    repeat with_reducible refine jR q2 ?_
    with_reducible apply hCallL
    ·exact HE0 _
    ·with_reducible refine jR trivial ?_
     simp only [zE21 hcz, hzz, e0, Val.v0, cE21, cV, eZ, eS]
    repeat with_reducible refine jR (J4 (eq_T hv) h9 h13 h3) ?_
    with_reducible refine jE trivial ?_
    trivial
   ·have hv : n = 13 := by rw [hnb, hb13]; rfl
    have h9 : ¬ n = 9 := by omega
    have h12 : ¬ n = 12 := by omega
    have h3 : ¬ n = 3 := by omega
    repeat with_reducible refine jR trivial ?_
    (with_reducible apply hCall); exact HL _; with_reducible refine jR trivial ?_
    repeat with_reducible refine jR trivial ?_
    (with_reducible apply hCall); exact HG1 _; with_reducible refine jR trivial ?_
    repeat with_reducible refine jR trivial ?_
    (with_reducible apply hCall); exact HG2 _; with_reducible refine jR trivial ?_
    repeat with_reducible refine jR trivial ?_
    (with_reducible apply hCall); exact HW _; with_reducible refine jR trivial ?_
    repeat with_reducible refine jR trivial ?_
    (with_reducible apply hCall); exact HOf _; with_reducible refine jR trivial ?_
    repeat with_reducible refine jR trivial ?_
    (with_reducible apply hCall); exact HN _; with_reducible refine jR hn9 ?_
    repeat with_reducible refine jR hn9 ?_
    (with_reducible apply hCall); exact HRd _; with_reducible refine jR (J2 bt bf) ?_
    repeat with_reducible refine jR (J2 bt bf) ?_
    (with_reducible apply hCall); exact HRe _; with_reducible refine jR (J2 bt bf) ?_
    repeat with_reducible refine jR (J2 bt bf) ?_
    (with_reducible apply hCall); exact HW _; with_reducible refine jR trivial ?_
    repeat with_reducible refine jR trivial ?_
    (with_reducible apply hCall); exact HEq _; with_reducible refine jR q2 ?_
    repeat with_reducible refine jR q2 ?_
    with_reducible apply hCallL
    ·exact HE0 _
    ·with_reducible refine jR trivial ?_
     simp only [zE21 hcz, hzz, e0, Val.v0, cE21, cV, eZ, eS]
    repeat with_reducible refine jR (J4 (eq_T hv) h9 h12 h3) ?_
    with_reducible refine jE trivial ?_
    trivial
 ·have ho := n2.2 hr
  have hn9 : n = 9 := by rw [hn, ho]; rfl
  obtain ⟨b2t, hcz⟩ : b2 = true ∧ c = zEd := by
   cases b2
   ·obtain ⟨x, hx, _⟩ := m2 rfl; rw [ho] at hx; cases hx
   ·obtain ⟨b, _, h⟩ := y2 rfl; exact ⟨rfl, h⟩
  rw [b2t] at q2
  by_cases rd : eright d = true
  ·have re : eright e = false := by
    cases h : eright e with
    | false => rfl
    | true => exact absurd ⟨rd, h⟩ hr
   rw [rd] at HRd
   rw [re] at HRe
   repeat with_reducible refine jR trivial ?_
   (with_reducible apply hCall); exact HL _; with_reducible refine jR trivial ?_
   repeat with_reducible refine jR trivial ?_
   (with_reducible apply hCall); exact HG1 _; with_reducible refine jR trivial ?_
   repeat with_reducible refine jR trivial ?_
   (with_reducible apply hCall); exact HG2 _; with_reducible refine jR trivial ?_
   repeat with_reducible refine jR trivial ?_
   (with_reducible apply hCall); exact HW _; with_reducible refine jR trivial ?_
   repeat with_reducible refine jR trivial ?_
   (with_reducible apply hCall); exact HOf _; with_reducible refine jR trivial ?_
   repeat with_reducible refine jR trivial ?_
   (with_reducible apply hCall); exact HN _; with_reducible refine jR (eq_T hn9) ?_
   repeat with_reducible refine jR (eq_T hn9) ?_
   (with_reducible apply hCall); exact HRd _; with_reducible refine jR (J2 bt bf) ?_
   repeat with_reducible refine jR (J2 bt bf) ?_
   (with_reducible apply hCall); exact HRe _; with_reducible refine jR (J2 bt bf) ?_
   repeat with_reducible refine jR (J2 bt bf) ?_
   (with_reducible apply hCall); exact HW _; with_reducible refine jR trivial ?_
   repeat with_reducible refine jR trivial ?_
   (with_reducible apply hCall); exact HEq _; with_reducible refine jR q2 ?_
   repeat with_reducible refine jR q2 ?_
   with_reducible apply hCallL
   ·exact HE0 _
   ·with_reducible refine jR trivial ?_
    simp only [zE21 hcz, hzz, e0, Val.v0, cE21, cV, eZ, eS]
   repeat with_reducible refine jR (eq_T hn9) ?_
   with_reducible refine jE trivial ?_
   trivial
  ·have rd : eright d = false := by simpa using rd
   rw [rd] at HRd
   repeat with_reducible refine jR trivial ?_
   (with_reducible apply hCall); exact HL _; with_reducible refine jR trivial ?_
   repeat with_reducible refine jR trivial ?_
   (with_reducible apply hCall); exact HG1 _; with_reducible refine jR trivial ?_
   repeat with_reducible refine jR trivial ?_
   (with_reducible apply hCall); exact HG2 _; with_reducible refine jR trivial ?_
   repeat with_reducible refine jR trivial ?_
   (with_reducible apply hCall); exact HW _; with_reducible refine jR trivial ?_
   repeat with_reducible refine jR trivial ?_
   (with_reducible apply hCall); exact HOf _; with_reducible refine jR trivial ?_
   repeat with_reducible refine jR trivial ?_
   (with_reducible apply hCall); exact HN _; with_reducible refine jR (eq_T hn9) ?_
   repeat with_reducible refine jR (eq_T hn9) ?_
   (with_reducible apply hCall); exact HRd _; with_reducible refine jR (J2 bt bf) ?_
   repeat with_reducible refine jR (J2 bt bf) ?_
   (with_reducible apply hCall); exact HW _; with_reducible refine jR trivial ?_
   repeat with_reducible refine jR trivial ?_
   (with_reducible apply hCall); exact HEq _; with_reducible refine jR q2 ?_
   repeat with_reducible refine jR q2 ?_
   with_reducible apply hCallL
   ·exact HE0 _
   ·with_reducible refine jR trivial ?_
    simp only [zE21 hcz, hzz, e0, Val.v0, cE21, cV, eZ, eS]
   repeat with_reducible refine jR (eq_T hn9) ?_
   with_reducible refine jE trivial ?_
   trivial
end Go.Proofs.YtlmbcoecipbblaaGreatDoor
