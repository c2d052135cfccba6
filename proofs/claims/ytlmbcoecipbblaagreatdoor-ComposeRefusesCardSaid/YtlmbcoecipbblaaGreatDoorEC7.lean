/- compose's put, change, keep, after, by the engine: given pair. -/
import Derived.Test.YtlmbcoecipbblaaGreatDoorEC6
set_option maxRecDepth 100000
set_option maxHeartbeats 4000000
set_option linter.unusedVariables false
set_option linter.unusedSimpArgs false
namespace Go.Proofs.YtlmbcoecipbblaaGreatDoor
open Go.RowKit
open Val (V E right cmp eright ado Res avalue esm esmF esmS esmK vmx esz eszF eszS eszK e0 swapE swapF PairP inv)
theorem stC_v {sc : List DV} {s : Stp} (h : sc = stC s) : ∀ i, i < 7 → cellAt sc (i + 2) = cellAt (encV s.2.2.1) i := fun i hi => by
 rw [h]; show cellAt (encV s.2.2.1 ++ encE s.2.2.2) i = _; exact cell_app1 (by rw [encV_len]; exact hi)
theorem stC_e {sc : List DV} {s : Stp} (h : sc = stC s) : ∀ i, i < 21 → cellAt sc (i + 9) = cellAt (encE s.2.2.2) i := fun i hi => by
 rw [h]; show cellAt (encV s.2.2.1 ++ encE s.2.2.2) (i + 7) = _; exact cell_app2 (encV_len _)
theorem stC_0 {sc : List DV} {s : Stp} (h : sc = stC s) : cellAt sc 0 = .lit (.int .i64 s.1) := by rw [h]; rfl
theorem encES_one (s : Stp) : encES [s] = [stC s] := by obtain ⟨a, b, v, x⟩ := s; rw [encES, encES]; rfl
theorem stC_len (s : Stp) : (stC s).length = 30 := by unfold stC; simp only [List.length_cons, List.length_append, encV_len, encE_len]
def SRr (er : Errs) : Res (List Stp) → DV → DV → Prop
 | .ok o, c, ev => c = .sl (encES o) ∧ ev = .lit .nilIface
 | .bad b, c, ev => c = .lit (.slice none 0 0) ∧ ev = .lit (er.of b)
theorem sr_ex (er : Errs) (r : Res (List Stp)) : ∃ c ev, SRr er r c ev := by
 cases r with
 | bad n => exact ⟨_, _, rfl, rfl⟩
 | ok x => exact ⟨_, _, rfl, rfl⟩
theorem sr_nil {er : Errs} {r : Res (List Stp)} {c ev : DV} (h : SRr er r c ev) : ∃ b, (bopD .ifc .neq ev (.lit .nilIface) = some (.lit (.bool b)) ∧ BopOk .ifc .neq ev (.lit .nilIface) = True) ∧ (b = true → ∃ n, r = .bad n ∧ ev = .lit (er.of n)) ∧ (b = false → ∃ x, r = .ok x ∧ c = .sl (encES x) ∧ ev = .lit .nilIface) := by
 cases r with
 | bad n =>
  obtain ⟨rfl, rfl⟩ := h
  obtain ⟨t, v, hev⟩ := er_face er n
  have q : bopD .ifc .neq (.lit (er.of n)) (.lit .nilIface) = some (.lit (.bool true)) := by rw [hev]; simp [bopD, bopV]
  exact ⟨true, ⟨q, eq_T ⟨_, q⟩⟩, fun _ => ⟨n, rfl, rfl⟩, fun e => (by cases e)⟩
 | ok x =>
  obtain ⟨rfl, rfl⟩ := h
  have q : bopD .ifc .neq (.lit .nilIface) (.lit .nilIface) = some (.lit (.bool false)) := by simp [bopD, bopV]
  exact ⟨false, ⟨q, eq_T ⟨_, q⟩⟩, fun e => (by cases e), fun _ => ⟨x, rfl, rfl, rfl⟩⟩
theorem LeC.app : ∀ {a b c d : List DV}, LeC a b → LeC c d → LeC (a ++ c) (b ++ d)
 | [], [], c, d, _, h => h
 | x :: a, y :: b, c, d, h1, h => ⟨h1.1, LeC.app h1.2 h⟩
theorem LeC.refl : ∀ a : List DV, LeC a a
 | [] => trivial
 | x :: a => ⟨LeD.of rfl, LeC.refl a⟩
def zVt : List (Unit → DV) := ([.int .i64, .int .u64, .str, .sl, .str, .sl, .sl] : List ZK).map fun z => fun _ => DV.lit z.v
def zEt : List (Unit → DV) := (fun _ => DV.lit (ZK.int .i64).v) :: (zVt ++ (zVt ++ ([.sl, .bool, .str, .str, .sl, .sl] : List ZK).map fun z => fun _ => DV.lit z.v))
theorem zVt_ok : LeC (zVt.map fun x => x ()) (encV Val.v0) := by
 unfold Val.v0
 rw [encV, encF, encL, encP]
 exact ⟨LeD.of rfl, LeD.of rfl, LeD.of rfl, LeD.nil, LeD.of rfl, LeD.nil, LeD.nil, trivial⟩
theorem zEt_ok : LeC (zEt.map fun x => x ()) (encE e0) := by
 unfold e0
 rw [encE, encEF, encES, encEK]
 unfold zEt
 simp only [List.map_cons, List.map_append]
 exact ⟨LeD.of rfl, zVt_ok.app (zVt_ok.app ⟨LeD.nil, LeD.of rfl, LeD.of rfl, LeD.of rfl, LeD.nil, LeD.nil, trivial⟩)⟩
theorem cells_map {fc : List DV} {n : Nat} (h : fc.length = n) : ((List.range n).map fun i => fun _ => cellAt fc i).map (fun x : Unit → DV => x ()) = fc := by
 have := cells_all h
 unfold elemsV at this
 exact (List.cons.inj this).1
theorem step_val (k : Int) {x : V} {vc : List DV} (h : vc = encV x) : LeR (elemsV [(fun _ => .lit (.int .i64 k)) :: (fun _ => .lit (ZK.int .i64).v) :: (((List.range 7).map fun i => fun _ => cellAt vc i) ++ zEt)]) (encES [(k, 0, x, e0)]) := by
 rw [encES_one]
 refine LeR.one ?_
 simp only [List.map_cons, List.map_append]
 rw [cells_map (fc := vc) (by rw [h]; exact encV_len x), h]
 exact ⟨LeD.of rfl, LeD.of rfl, (LeC.refl _).app zEt_ok⟩
theorem step_chg (k : Int) {x : E} {vc : List DV} (h : vc = encE x) : LeR (elemsV [(fun _ => .lit (.int .i64 k)) :: (fun _ => .lit (ZK.int .i64).v) :: (zVt ++ (List.range 21).map fun i => fun _ => cellAt vc i)]) (encES [(k, 0, Val.v0, x)]) := by
 rw [encES_one]
 refine LeR.one ?_
 simp only [List.map_cons, List.map_append]
 rw [cells_map (fc := vc) (by rw [h]; exact encE_len x), h]
 exact ⟨LeD.of rfl, LeD.of rfl, zVt_ok.app (LeC.refl _)⟩
theorem step_keep (k n : Int) : LeR (elemsV [(fun _ => .lit (.int .i64 k)) :: (fun _ => .lit (.int .i64 n)) :: (zVt ++ zEt)]) (encES [(k, n, Val.v0, e0)]) := by
 rw [encES_one]
 refine LeR.one ?_
 simp only [List.map_cons, List.map_append]
 exact ⟨LeD.of rfl, LeD.of rfl, zVt_ok.app zEt_ok⟩
theorem keep_run (er : Errs) {s t : Stp} {sc tc : List DV} (hs : sc = stC s) (ht : tc = stC t) (c : DV) (hc : c = .sl (encES [t])) (fr : List Nat) :
  PRun Tryz.prog (gE er) 96 [.agg (cellsP 30 sc), .agg (cellsP 30 tc)] [] fr (.tup [.d fun _ => c, .d fun _ => .lit .nilIface]) [] := by
 refine PRun.pure (xs := [.agg (cellsP 30 sc), .agg (cellsP 30 tc)]) (r1 := .tup [.d fun _ => c, .d fun _ => .lit .nilIface]) tI_ok (by kernel_rfl) Tryz.func96 rfl rfl (by kernel_rfl) ?_
 have h30 : tc.length = 30 := by rw [ht]; exact stC_len t
 repeat with_reducible refine jR trivial ?_
 with_reducible refine jE trivial ?_
 rw [hc, encES_one, ← ht]
 exact LeD.of (congrArg DV.sl (cells_all h30))
theorem put_run (er : Errs) {s t : Stp} (h3 : s.1 = 3) (hm : esm t.2.2.2) (hb : vmx s.2.2.1 + esz t.2.2.2 ≤ 90000) (pr : E → E → Res E) : ∃ c ev, SRr er (afterC pr s t) c ev ∧ ∀ sc tc, sc = stC s → tc = stC t → ∀ fr,
  PRun Tryz.prog (gE er) 94 [.agg (cellsP 30 sc), .agg (cellsP 30 tc)] [] fr (.tup [.d fun _ => c, .d fun _ => ev]) [] := by
 obtain ⟨c, ev, HR⟩ := sr_ex er (afterC pr s t)
 refine ⟨c, ev, HR, fun sc tc hs ht fr => ?_⟩
 refine PRun.pure (xs := [.agg (cellsP 30 sc), .agg (cellsP 30 tc)]) (r1 := .tup [.d fun _ => c, .d fun _ => ev]) tI_ok (by kernel_rfl) Tryz.func94 rfl rfl (by kernel_rfl) ?_
 have h30 : sc.length = 30 := by rw [hs]; exact stC_len s
 have t0 := stC_0 ht
 rw [afterC, if_pos h3] at HR
 by_cases t1 : t.1 = 1
 ·rw [if_pos t1] at HR
  obtain ⟨hc, hv⟩ := HR
  repeat with_reducible refine jR (J2 (cellQ t0) (eq_T t1)) ?_
  with_reducible refine jE trivial ?_
  subst hv
  exact ⟨LeD.of (by rw [hc, encES_one, ← hs]; exact congrArg DV.sl (cells_all h30)), LeD.of rfl⟩
 rw [if_neg t1] at HR
 by_cases t2 : t.1 = 2
 ·rw [if_pos t2] at HR
  have HS := fun fr => same_run (G := gE er) (rfl : encV s.2.2.1 = _) (rfl : encV t.2.2.1 = _) fr
  rw [← cells_as (n := 7) (f := fun i => cellAt sc (i + 2)) (stC_v hs), ← cells_as (n := 7) (f := fun i => cellAt tc (i + 2)) (stC_v ht)] at HS
  by_cases hz : cmp s.2.2.1 t.2.2.1 = 0
  ·rw [if_pos hz] at HR
   obtain ⟨hc, hv⟩ := HR
   repeat with_reducible refine jR (J3 (cellQ t0) t1 (eq_T t2)) ?_
   (with_reducible apply hCall); exact HS _; with_reducible refine jR (eq_T hz) ?_
   repeat with_reducible refine jR trivial ?_
   with_reducible refine jE trivial ?_
   subst hc hv
   exact ⟨by rw [encES]; exact LeD.nil, LeD.of rfl⟩
  ·rw [if_neg hz] at HR
   obtain ⟨hc, hv⟩ : c = .lit (.slice none 0 0) ∧ ev = .lit er.c := HR
   repeat with_reducible refine jR (J3 (cellQ t0) t1 (eq_T t2)) ?_
   (with_reducible apply hCall); exact HS _; with_reducible refine jR hz ?_
   repeat with_reducible refine jR trivial ?_
   with_reducible refine jE trivial ?_
   subst hc hv
   exact ⟨LeD.of rfl, LeD.of rfl⟩
 rw [if_neg t2] at HR
 obtain ⟨vc, ve, h2, H2⟩ := value_run er (rfl : encE t.2.2.2 = _) (rfl : encV s.2.2.1 = _) hm hb
 rw [← cells_as (n := 21) (f := fun i => cellAt tc (i + 9)) (stC_e ht), ← cells_as (n := 7) (f := fun i => cellAt sc (i + 2)) (stC_v hs)] at H2
 obtain ⟨b2, q2, y2, n2⟩ := rv_nil h2
 repeat with_reducible refine jR (J3 (cellQ t0) t1 t2) ?_
 (with_reducible apply hCall); exact H2 _; with_reducible refine jR q2 ?_
 refine ⟨fun hb2 => ?_, fun hb2 => ?_⟩
 ·obtain ⟨n, hr, hve⟩ := y2 hb2
  rw [hr] at HR
  obtain ⟨hc, hv⟩ : c = .lit (.slice none 0 0) ∧ ev = .lit (er.of n) := HR
  repeat with_reducible refine jR trivial ?_
  with_reducible refine jE trivial ?_
  subst hc hv
  exact ⟨LeD.of rfl, LeD.of hve⟩
 ·obtain ⟨x, hr, hvc, _⟩ := n2 hb2
  rw [hr] at HR
  obtain ⟨hc, hv⟩ : c = .sl (encES [(3, 0, x, e0)]) ∧ ev = .lit .nilIface := HR
  repeat with_reducible refine jR trivial ?_
  with_reducible refine jE trivial ?_
  subst hc hv
  exact ⟨LeD.sl (step_val 3 hvc), LeD.of rfl⟩
theorem change_run (er : Errs) {s t : Stp} (h4 : s.1 = 4) (hr4 : eright s.2.2.2 = true) (hms : esm s.2.2.2) (hb : vmx t.2.2.1 + esz s.2.2.2 ≤ 90000) (hco : ¬ t.1 = 1 → ¬ t.1 = 2 → CoE er 17 s.2.2.2 t.2.2.2) : ∃ c ev, SRr er (afterC (prC er 17) s t) c ev ∧ ∀ sc tc, sc = stC s → tc = stC t → ∀ fr,
  PRun Tryz.prog (gE er) 95 [.agg (cellsP 30 sc), .agg (cellsP 30 tc)] [] fr (.tup [.d fun _ => c, .d fun _ => ev]) [] := by
 obtain ⟨c, ev, HR⟩ := sr_ex er (afterC (prC er 17) s t)
 refine ⟨c, ev, HR, fun sc tc hs ht fr => ?_⟩
 refine PRun.pure (xs := [.agg (cellsP 30 sc), .agg (cellsP 30 tc)]) (r1 := .tup [.d fun _ => c, .d fun _ => ev]) tI_ok (by kernel_rfl) Tryz.func95 rfl rfl (by kernel_rfl) ?_
 have h30 : sc.length = 30 := by rw [hs]; exact stC_len s
 have t0 := stC_0 ht
 rw [afterC, if_neg (by rw [h4]; decide), if_pos h4] at HR
 by_cases t1 : t.1 = 1
 ·rw [if_pos t1] at HR
  obtain ⟨hc, hv⟩ := HR
  repeat with_reducible refine jR (J2 (cellQ t0) (eq_T t1)) ?_
  with_reducible refine jE trivial ?_
  subst hv
  exact ⟨LeD.of (by rw [hc, encES_one, ← hs]; exact congrArg DV.sl (cells_all h30)), LeD.of rfl⟩
 rw [if_neg t1] at HR
 by_cases t2 : t.1 = 2
 ·rw [if_pos t2] at HR
  have hz := Val.inv_esz s.2.2.2
  obtain ⟨ic, hi, H1⟩ := invof_run (G := gE er) (rfl : encE s.2.2.2 = _) hr4 (by omega)
  obtain ⟨vc, ve, h2, H2⟩ := value_run er hi (rfl : encV t.2.2.1 = _) (Val.inv_esm _ hms) (by omega)
  rw [← cells_as (n := 21) (f := fun i => cellAt sc (i + 9)) (stC_e hs)] at H1
  rw [← cells_as (n := 7) (f := fun i => cellAt tc (i + 2)) (stC_v ht)] at H2
  obtain ⟨b2, q2, y2, n2⟩ := rv_nil h2
  repeat with_reducible refine jR (J3 (cellQ t0) t1 (eq_T t2)) ?_
  (with_reducible apply hCall); exact H1 _; with_reducible refine jR trivial ?_
  repeat with_reducible refine jR trivial ?_
  (with_reducible apply hCall); exact H2 _; with_reducible refine jR q2 ?_
  refine ⟨fun hb2 => ?_, fun hb2 => ?_⟩
  ·obtain ⟨n, hr, hve⟩ := y2 hb2
   rw [hr] at HR
   obtain ⟨hc, hv⟩ : c = .lit (.slice none 0 0) ∧ ev = .lit (er.of n) := HR
   repeat with_reducible refine jR trivial ?_
   with_reducible refine jE trivial ?_
   subst hc hv
   exact ⟨LeD.of rfl, LeD.of hve⟩
  ·obtain ⟨x, hr, hvc, _⟩ := n2 hb2
   rw [hr] at HR
   obtain ⟨hc, hv⟩ : c = .sl (encES [(2, 0, x, e0)]) ∧ ev = .lit .nilIface := HR
   repeat with_reducible refine jR trivial ?_
   with_reducible refine jE trivial ?_
   subst hc hv
   exact ⟨LeD.sl (step_val 2 hvc), LeD.of rfl⟩
 rw [if_neg t2] at HR
 obtain ⟨_, vc, ve, h2, H2⟩ := prC_ok (hco t1 t2)
 replace H2 := H2 _ _ rfl rfl
 rw [← cells_as (n := 21) (f := fun i => cellAt sc (i + 9)) (stC_e hs), ← cells_as (n := 21) (f := fun i => cellAt tc (i + 9)) (stC_e ht)] at H2
 obtain ⟨b2, q2, y2, n2⟩ := re_nil h2
 repeat with_reducible refine jR (J3 (cellQ t0) t1 t2) ?_
 (with_reducible apply hCall); exact H2 _; with_reducible refine jR q2 ?_
 refine ⟨fun hb2 => ?_, fun hb2 => ?_⟩
 ·obtain ⟨n, hr, hve⟩ := y2 hb2
  rw [hr] at HR
  obtain ⟨hc, hv⟩ : c = .lit (.slice none 0 0) ∧ ev = .lit (er.of n) := HR
  repeat with_reducible refine jR trivial ?_
  with_reducible refine jE trivial ?_
  subst hc hv
  exact ⟨LeD.of rfl, LeD.of hve⟩
 ·obtain ⟨x, hr, hvc, _⟩ := n2 hb2
  rw [hr] at HR
  obtain ⟨hc, hv⟩ : c = .sl (encES [(4, 0, Val.v0, x)]) ∧ ev = .lit .nilIface := HR
  repeat with_reducible refine jR trivial ?_
  with_reducible refine jE trivial ?_
  subst hc hv
  exact ⟨LeD.sl (step_chg 4 hvc), LeD.of rfl⟩
theorem after_run {G : List (Nat × List DV)} (k : Int) (r : FuncId) (hr : (if k = 3 then 94 else if k = 4 then 95 else 96) = r) (fr : List Nat) : PRun Tryz.prog G 87 [.d fun _ => .lit (.int .i64 k)] [] fr (.fn (.func r) [] []) [] := by
 refine PRun.pure (xs := [.d fun _ => .lit (.int .i64 k)]) (r1 := .fn (.func r) [] []) tI_ok (by kernel_rfl) Tryz.func87 rfl rfl (by kernel_rfl) ?_
 with_reducible refine jR trivial ?_
 refine ⟨fun h2 => ?_, fun h2 => ?_⟩
 ·obtain rfl : r = 94 := by rw [← hr, if_pos h2]
  with_reducible refine jR trivial ?_
  with_reducible refine jE trivial ?_
  trivial
 with_reducible refine jR trivial ?_
 refine ⟨fun h3 => ?_, fun h3 => ?_⟩
 ·obtain rfl : r = 95 := by rw [← hr, if_neg h2, if_pos h3]
  with_reducible refine jR trivial ?_
  with_reducible refine jE trivial ?_
  trivial
 ·obtain rfl : r = 96 := by rw [← hr, if_neg h2, if_neg h3]
  with_reducible refine jR trivial ?_
  with_reducible refine jE trivial ?_
  trivial
end Go.Proofs.YtlmbcoecipbblaaGreatDoor
