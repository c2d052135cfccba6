/- redlineref13.Compare and Same of a value and itself, by the engine. -/
import Derived.Test.YtlmbcoecipbblaaGreatDoorGpE
set_option maxRecDepth 100000
set_option maxHeartbeats 8000000
set_option linter.unusedVariables false
set_option linter.unusedSimpArgs false
namespace Go.Proofs.YtlmbcoecipbblaaGreatDoor
open Go.RowKit
open Val (V E vmx vmxF vmxL vmxP)
theorem cvI {P : Program} {t : TypeId} {k' : IntKind} (s : TypeId) (hs : (P.underlying s).isSome = true) (hd : P.underlying t = some (.int k')) (k : IntKind) (n : Int) (R : Value → Prop) : (∃ v, litB v = true ∧ (∀ w, (convert s t (.int k n)).run P w = .ok v w) ∧ R v) = R (.int k' (k'.wrap n)) := by
 have hk : P.intKind t = k' := by simp [Program.intKind, hd]
 have h : ∀ w, (convert s t (.int k n)).run P w = .ok (.int k' (k'.wrap n)) w := fun w => by
  have := run_convert_int (P := P) w s t k n hs (by rw [hk]; exact hd)
  rwa [hk] at this
 refine propext ⟨fun ⟨v, _, h1, h2⟩ => ?_, fun hr => ⟨_, rfl, h, hr⟩⟩
 have := h1 default
 rw [h default] at this
 cases this; exact h2
theorem bl_self : ∀ l : List UInt8, Op.bytesLess l l = false
 | [] => rfl
 | a :: r => by unfold Op.bytesLess; simp [bl_self r]
theorem rtx_run {G : List (Nat × List DV)} {c : DV} {a : ByteArray} (hc : c = .lit (.string a)) (fr : List Nat) : PRun Tryz.prog G 72 [.d fun _ => c, .d fun _ => c] [] fr (.d fun _ => .lit (.int .i64 0)) [] := by
 have h := bl_self a.toList
 refine PRun.pure (xs := [.d fun _ => c, .d fun _ => c]) (r1 := .d fun _ => .lit (.int .i64 0)) tI_ok (by kernel_rfl) Tryz.func72 rfl rfl (by kernel_rfl) ?_
 repeat with_reducible refine jR (J4 (cellQ hc) h (beq_self_eq_true a.toList) Bool.or_true) ?_
 with_reducible refine jE trivial ?_
 trivial
theorem rnu_run {G : List (Nat × List DV)} {c : DV} {a : Int} (hc : c = .lit (.int .u64 a)) (fr : List Nat) : PRun Tryz.prog G 71 [.d fun _ => c, .d fun _ => c] [] fr (.d fun _ => .lit (.int .i64 0)) [] := by
 refine PRun.pure (xs := [.d fun _ => c, .d fun _ => c]) (r1 := .d fun _ => .lit (.int .i64 0)) tI_ok (by kernel_rfl) Tryz.func71 rfl rfl (by kernel_rfl) ?_
 repeat with_reducible refine jR (cellQ hc) ?_
 with_reducible refine jE trivial ?_
 trivial
def CmV (x : V) : Prop := ∀ (G : List (Nat × List DV)) (xc : List DV), xc = encV x → ∀ fr, PRun Tryz.prog G 51 [.agg (cellsP 7 xc), .agg (cellsP 7 xc)] [] fr (.d fun _ => .lit (.int .i64 0)) []
structure CmX {α : Type} (enc : List α → List (List DV)) (fl : List (List DV)) (ok : α → Prop) where
 i : Nat
 rs : List α
 hd : fl.drop i = enc rs
 hok : ∀ x ∈ rs, ok x
def cmS (vc : List DV) (is_ : Nat) (i : Nat) : Go.Proofs.YtlmbcoecipbblaaGreatDoor.St := ⟨[(2, .ptr 0 0), (3, .ptr 1 0), (is_, .d fun _ => .lit (.int .i64 i))], [(0, .blk (cellsP 7 vc)), (1, .blk (cellsP 7 vc))], 2, 0⟩
def cmQ (vc : List DV) : Go.Proofs.YtlmbcoecipbblaaGreatDoor.St := ⟨[(2, .ptr 0 0), (3, .ptr 1 0)], [(0, .blk (cellsP 7 vc)), (1, .blk (cellsP 7 vc))], 2, 0⟩
theorem cm_run (x : V)
  (HF : ∀ y ∈ x.fields, CmV y.2) (HL : ∀ y ∈ x.list, CmV y) (HP : ∀ y ∈ x.pairs, CmV y.1 ∧ CmV y.2) : CmV x := fun G vc hx fr => by
 obtain ⟨fl, hfl⟩ : ∃ l, l = encF x.fields := ⟨_, rfl⟩
 obtain ⟨ll, hll⟩ : ∃ z, z = encL x.list := ⟨_, rfl⟩
 obtain ⟨pl, hpl⟩ : ∃ l, l = encP x.pairs := ⟨_, rfl⟩
 have X := cV x; rw [← hx] at X
 obtain ⟨x0, x1, x2, x3, x4, x5, x6⟩ := X
 rw [← hfl] at x3
 rw [← hll] at x5
 rw [← hpl] at x6
 obtain ⟨k, hk⟩ : ∃ z, z = x.kind := ⟨_, rfl⟩
 rw [← hk] at x0
 have hcv := cvI (P := Tryz.prog) (t := 22) 3 rfl rfl .i64
 have HT := fun fr => rtx_run (G := G) x2 fr
 have HR := fun fr => rtx_run (G := G) x4 fr
 have HU := fun fr => rnu_run (G := G) x1 fr
 have HN := fun n fr => rnu_run (G := G) (c := .lit (.int .u64 n)) rfl fr
 refine PRun.pure (xs := [.agg (cellsP 7 vc), .agg (cellsP 7 vc)]) (r1 := .d fun _ => .lit (.int .i64 0)) tI_ok (by kernel_rfl) Tryz.func51 rfl rfl (by kernel_rfl) ?_
 by_cases k1 : k = 1
 ·repeat with_reducible refine jR (J4 (cellQ x0) (Int.lt_irrefl k) (eq_T k1) (cellQ x1)) ?_
  (with_reducible apply hCall); exact HU _; with_reducible refine jR trivial ?_
  repeat with_reducible refine jR trivial ?_
  with_reducible refine jE trivial ?_
  trivial
 by_cases k2 : k = 2
 ·repeat with_reducible refine jR (J4 (cellQ x0) (Int.lt_irrefl k) k1 (eq_T k2)) ?_
  (with_reducible apply hCall); exact HT _; with_reducible refine jR trivial ?_
  repeat with_reducible refine jR trivial ?_
  with_reducible refine jE trivial ?_
  trivial
 by_cases k3 : k = 3
 ·repeat with_reducible refine jR (J6 (cellQ x0) (Int.lt_irrefl k) k1 k2 (eq_T k3) (cellQ x3)) ?_
  refine hLoop (loop_okK (ι := CmX encF fl (fun y : Int × V => CmV y.2)) tI_ok (by kernel_rfl) (fun x => cmS vc 5 x.i) (fun x => x.rs.length) ⟨0, x.fields, hfl, HF⟩ ?_ (fun x kn => ?_))
  ·with_reducible refine jR trivial ?_
   exact LeD.of rfl
  obtain ⟨i, rs, hd, hok⟩ := x
  show holds _ _ _ (ev tI G _ _ (cmS vc 5 i)) _
  have hi0 := Int.natCast_nonneg i
  rcases rs with _ | ⟨⟨m, y⟩, rs⟩
  rotate_left
  ·obtain ⟨qc, hqc⟩ : ∃ z, z = DV.lit (.int .i64 m) :: encV y := ⟨_, rfl⟩
   rw [encF_cells, ← hqc] at hd
   obtain ⟨g1, g2, g3⟩ := drop_c hd
   have hw := wrap_mx g2 (kn.2 0 _ 3 _ fl rfl rfl x3)
   have q8 : qc.length = 8 := by rw [hqc, List.length_cons, encV_len]
   have q0 : cellAt qc 0 = .lit (.int .i64 m) := by rw [hqc]; rfl
   obtain ⟨oc, hoc⟩ : ∃ z, z = encV y := ⟨_, rfl⟩
   have HY := hok _ (List.mem_cons_self ..) G oc hoc
   have HY := fun fr => (HY fr).args (args' := [.agg ((List.range 7).map fun i => (.d fun _ => cellAt qc (i + 1) : PV)), .agg ((List.range 7).map fun i => (.d fun _ => cellAt qc (i + 1) : PV))]) (fun N h vs hp => by rw [cells_as (n := 7) (f := fun i => cellAt qc (i + 1)) (c := oc) (fun i _ => by rw [hqc, hoc]; rfl)] at hp; exact hp)
   obtain ⟨i2, hi2⟩ : ∃ z, z = i + 1 := ⟨_, rfl⟩
   repeat with_reducible refine jR (J6 (cellQ x3) (eq_T (Int.ofNat_lt.2 g2)) (eq_T hi0) q8 (cellQ q0) (Int.lt_irrefl m)) ?_
   (with_reducible refine jI qc ?_ ?_); exact g1
   repeat with_reducible refine jR (J6 (cellQ x3) (eq_T (Int.ofNat_lt.2 g2)) (eq_T hi0) q8 (cellQ q0) (Int.lt_irrefl m)) ?_
   (with_reducible refine jI qc ?_ ?_); exact g1
   repeat with_reducible refine jR (J6 (cellQ x3) (eq_T (Int.ofNat_lt.2 g2)) (eq_T hi0) q8 (cellQ q0) (Int.lt_irrefl m)) ?_
   (with_reducible refine jI qc ?_ ?_); exact g1
   repeat with_reducible refine jR (J6 (cellQ x3) (eq_T (Int.ofNat_lt.2 g2)) (eq_T hi0) q8 (cellQ q0) (Int.lt_irrefl m)) ?_
   (with_reducible refine jI qc ?_ ?_); exact g1
   repeat with_reducible refine jR (J6 (cellQ x3) (eq_T (Int.ofNat_lt.2 g2)) (eq_T hi0) q8 (cellQ q0) (Int.lt_irrefl m)) ?_
   (with_reducible refine jI qc ?_ ?_); exact g1
   repeat with_reducible refine jR (J6 (cellQ x3) (eq_T (Int.ofNat_lt.2 g2)) (eq_T hi0) q8 (cellQ q0) (Int.lt_irrefl m)) ?_
   (with_reducible refine jI qc ?_ ?_); exact g1
   repeat with_reducible refine jR (J6 (cellQ x3) (eq_T (Int.ofNat_lt.2 g2)) (eq_T hi0) q8 (cellQ q0) (Int.lt_irrefl m)) ?_
   (with_reducible apply hCall); exact HY _; with_reducible refine jR (J7 (cellQ x3) (eq_T (Int.ofNat_lt.2 g2)) (eq_T hi0) q8 (cellQ q0) (Int.lt_irrefl m) hw) ?_
   repeat with_reducible refine jR (J7 (cellQ x3) (eq_T (Int.ofNat_lt.2 g2)) (eq_T hi0) q8 (cellQ q0) (Int.lt_irrefl m) hw) ?_
   with_reducible refine Exists.intro ⟨i2, rs, by rw [hi2]; exact g3, fun x hx => hok x (List.mem_cons_of_mem _ hx)⟩ (And.intro (Nat.lt_succ_self _) ?_)
   with_reducible refine jR trivial ?_
   subst hi2
   exact LeD.of rfl
  have hge := drop_n (hd.trans (by rw [encF]))
  repeat with_reducible refine jR (J2 (cellQ x3) hge) ?_
  with_reducible refine Exists.intro (cmQ vc) (And.intro ?_ ?_)
  ·with_reducible refine jR trivial ?_
   trivial
  repeat with_reducible refine jR (J2 (cellQ x3) hcv) ?_
  (with_reducible apply hCall); exact HN _ _; with_reducible refine jR hcv ?_
  repeat with_reducible refine jR hcv ?_
  (with_reducible apply hCall); exact HR _; with_reducible refine jR trivial ?_
  repeat with_reducible refine jR trivial ?_
  with_reducible refine jE trivial ?_
  trivial
 by_cases k4 : k = 4
 ·repeat with_reducible refine jR (J7 (cellQ x0) (Int.lt_irrefl k) k1 k2 k3 (eq_T k4) (cellQ x5)) ?_
  refine hLoop (loop_okK (ι := CmX encL ll CmV) tI_ok (by kernel_rfl) (fun x => cmS vc 8 x.i) (fun x => x.rs.length) ⟨0, x.list, hll, HL⟩ ?_ (fun x kn => ?_))
  ·with_reducible refine jR trivial ?_
   exact LeD.of rfl
  obtain ⟨i, rs, hd, hok⟩ := x
  show holds _ _ _ (ev tI G _ _ (cmS vc 8 i)) _
  have hi0 := Int.natCast_nonneg i
  rcases rs with _ | ⟨y, rs⟩
  rotate_left
  ·obtain ⟨qc, hqc⟩ : ∃ z, z = encV y := ⟨_, rfl⟩
   rw [encL, ← hqc] at hd
   obtain ⟨g1, g2, g3⟩ := drop_c hd
   have hw := wrap_mx g2 (kn.2 0 _ 5 _ ll rfl rfl x5)
   have q8 : qc.length = 7 := by rw [hqc, encV_len]
   have HY := hok _ (List.mem_cons_self ..) G qc hqc
   obtain ⟨i2, hi2⟩ : ∃ z, z = i + 1 := ⟨_, rfl⟩
   repeat with_reducible refine jR (J4 (cellQ x5) (eq_T (Int.ofNat_lt.2 g2)) (eq_T hi0) q8) ?_ 
   (with_reducible refine jI qc ?_ ?_); exact g1
   repeat with_reducible refine jR (J4 (cellQ x5) (eq_T (Int.ofNat_lt.2 g2)) (eq_T hi0) q8) ?_ 
   (with_reducible refine jI qc ?_ ?_); exact g1
   repeat with_reducible refine jR (J4 (cellQ x5) (eq_T (Int.ofNat_lt.2 g2)) (eq_T hi0) q8) ?_ 
   (with_reducible apply hCall); exact HY _; with_reducible refine jR (J5 (cellQ x5) (eq_T (Int.ofNat_lt.2 g2)) (eq_T hi0) q8 hw) ?_
   repeat with_reducible refine jR (J5 (cellQ x5) (eq_T (Int.ofNat_lt.2 g2)) (eq_T hi0) q8 hw) ?_
   with_reducible refine Exists.intro ⟨i2, rs, by rw [hi2]; exact g3, fun x hx => hok x (List.mem_cons_of_mem _ hx)⟩ (And.intro (Nat.lt_succ_self _) ?_)
   with_reducible refine jR trivial ?_
   subst hi2
   exact LeD.of rfl
  have hge := drop_n (hd.trans (by rw [encL]))
  repeat with_reducible refine jR (J2 (cellQ x5) hge) ?_
  with_reducible refine Exists.intro (cmQ vc) (And.intro ?_ ?_)
  ·with_reducible refine jR trivial ?_
   trivial
  repeat with_reducible refine jR (J2 (cellQ x5) hcv) ?_
  (with_reducible apply hCall); exact HN _ _; with_reducible refine jR hcv ?_
  repeat with_reducible refine jR trivial ?_
  with_reducible refine jE trivial ?_
  trivial
 by_cases k5 : k = 5
 ·repeat with_reducible refine jR (J7 (cellQ x0) (Int.lt_irrefl k) k1 k2 k3 k4 (J2 (eq_T k5) (cellQ x6))) ?_
  refine hLoop (loop_okK (ι := CmX encP pl (fun y : V × V => CmV y.1 ∧ CmV y.2)) tI_ok (by kernel_rfl) (fun x => cmS vc 10 x.i) (fun x => x.rs.length) ⟨0, x.pairs, hpl, HP⟩ ?_ (fun x kn => ?_))
  ·with_reducible refine jR trivial ?_
   exact LeD.of rfl
  obtain ⟨i, rs, hd, hok⟩ := x
  show holds _ _ _ (ev tI G _ _ (cmS vc 10 i)) _
  have hi0 := Int.natCast_nonneg i
  rcases rs with _ | ⟨⟨m, y⟩, rs⟩
  rotate_left
  ·obtain ⟨qc, hqc⟩ : ∃ z, z = encV m ++ encV y := ⟨_, rfl⟩
   rw [encP, ← hqc] at hd
   obtain ⟨g1, g2, g3⟩ := drop_c hd
   have hw := wrap_mx g2 (kn.2 0 _ 6 _ pl rfl rfl x6)
   have q8 : qc.length = 14 := by rw [hqc, List.length_append, encV_len, encV_len]
   obtain ⟨mc, hmc⟩ : ∃ z, z = encV m := ⟨_, rfl⟩
   obtain ⟨oc, hoc⟩ : ∃ z, z = encV y := ⟨_, rfl⟩
   have HM := (hok _ (List.mem_cons_self ..)).1 G mc hmc
   have HM := fun fr => (HM fr).args (args' := [.agg ((List.range 7).map fun i => (.d fun _ => cellAt qc i : PV)), .agg ((List.range 7).map fun i => (.d fun _ => cellAt qc i : PV))]) (fun N h vs hp => by rw [cells_as (n := 7) (f := fun i => cellAt qc i) (c := mc) (fun i h => by rw [hqc, hmc]; exact cell_app1 (by rw [encV_len]; exact h))] at hp; exact hp)
   have HY := (hok _ (List.mem_cons_self ..)).2 G oc hoc
   have HY := fun fr => (HY fr).args (args' := [.agg ((List.range 7).map fun i => (.d fun _ => cellAt qc (i + 7) : PV)), .agg ((List.range 7).map fun i => (.d fun _ => cellAt qc (i + 7) : PV))]) (fun N h vs hp => by rw [cells_as (n := 7) (f := fun i => cellAt qc (i + 7)) (c := oc) (fun i _ => by rw [hqc, hoc]; exact cell_app2 (encV_len m))] at hp; exact hp)
   obtain ⟨i2, hi2⟩ : ∃ z, z = i + 1 := ⟨_, rfl⟩
   repeat with_reducible refine jR (J4 (cellQ x6) (eq_T (Int.ofNat_lt.2 g2)) (eq_T hi0) q8) ?_ 
   (with_reducible refine jI qc ?_ ?_); exact g1
   repeat with_reducible refine jR (J4 (cellQ x6) (eq_T (Int.ofNat_lt.2 g2)) (eq_T hi0) q8) ?_ 
   (with_reducible refine jI qc ?_ ?_); exact g1
   repeat with_reducible refine jR (J4 (cellQ x6) (eq_T (Int.ofNat_lt.2 g2)) (eq_T hi0) q8) ?_ 
   (with_reducible apply hCall); exact HM _; with_reducible refine jR (J5 (cellQ x6) (eq_T (Int.ofNat_lt.2 g2)) (eq_T hi0) q8 hw) ?_
   repeat with_reducible refine jR (J5 (cellQ x6) (eq_T (Int.ofNat_lt.2 g2)) (eq_T hi0) q8 hw) ?_
   (with_reducible refine jI qc ?_ ?_); exact g1
   repeat with_reducible refine jR (J4 (cellQ x6) (eq_T (Int.ofNat_lt.2 g2)) (eq_T hi0) q8) ?_ 
   (with_reducible refine jI qc ?_ ?_); exact g1
   repeat with_reducible refine jR (J4 (cellQ x6) (eq_T (Int.ofNat_lt.2 g2)) (eq_T hi0) q8) ?_ 
   (with_reducible apply hCall); exact HY _; with_reducible refine jR (J5 (cellQ x6) (eq_T (Int.ofNat_lt.2 g2)) (eq_T hi0) q8 hw) ?_
   repeat with_reducible refine jR (J5 (cellQ x6) (eq_T (Int.ofNat_lt.2 g2)) (eq_T hi0) q8 hw) ?_
   with_reducible refine Exists.intro ⟨i2, rs, by rw [hi2]; exact g3, fun x hx => hok x (List.mem_cons_of_mem _ hx)⟩ (And.intro (Nat.lt_succ_self _) ?_)
   with_reducible refine jR trivial ?_
   subst hi2
   exact LeD.of rfl
  have hge := drop_n (hd.trans (by rw [encP]))
  repeat with_reducible refine jR (J2 (cellQ x6) hge) ?_
  with_reducible refine Exists.intro (cmQ vc) (And.intro ?_ ?_)
  ·with_reducible refine jR trivial ?_
   trivial
  repeat with_reducible refine jR (J2 (cellQ x6) hcv) ?_
  (with_reducible apply hCall); exact HN _ _; with_reducible refine jR hcv ?_
  repeat with_reducible refine jR trivial ?_
  with_reducible refine jE trivial ?_
  trivial
 repeat with_reducible refine jR (J7 (cellQ x0) (Int.lt_irrefl k) k1 k2 k3 k4 k5) ?_
 with_reducible refine jE trivial ?_
 trivial
mutual
theorem cm_all : ∀ x : V, CmV x
 | .mk k n t f r l p => cm_run (.mk k n t f r l p) (cmF f) (cmL l) (cmP p)
theorem cmF : ∀ f : List (Int × V), ∀ x ∈ f, CmV x.2
 | [], x, hx => absurd hx (by simp)
 | (n, y) :: r, x, hx => by
  rcases List.mem_cons.1 hx with hx | hx
  ·rw [hx]; exact cm_all y
  ·exact cmF r x hx
theorem cmL : ∀ f : List V, ∀ x ∈ f, CmV x
 | [], x, hx => absurd hx (by simp)
 | y :: r, x, hx => by
  rcases List.mem_cons.1 hx with hx | hx
  ·rw [hx]; exact cm_all y
  ·exact cmL r x hx
theorem cmP : ∀ f : List (V × V), ∀ x ∈ f, CmV x.1 ∧ CmV x.2
 | [], x, hx => absurd hx (by simp)
 | (n, y) :: r, x, hx => by
  rcases List.mem_cons.1 hx with hx | hx
  ·rw [hx]; exact ⟨cm_all n, cm_all y⟩
  ·exact cmP r x hx
end
theorem rsame_run {G : List (Nat × List DV)} {x : V} {xc : List DV} (hx : xc = encV x) (fr : List Nat) : PRun Tryz.prog G 25 [.agg (cellsP 7 xc), .agg (cellsP 7 xc)] [] fr (.d fun _ => .lit (.bool true)) [] := by
 have H := cm_all x G xc hx
 refine PRun.pure (xs := [.agg (cellsP 7 xc), .agg (cellsP 7 xc)]) (r1 := .d fun _ => .lit (.bool true)) tI_ok (by kernel_rfl) Tryz.func25 rfl rfl (by kernel_rfl) ?_
 repeat with_reducible refine jR trivial ?_
 (with_reducible apply hCall); exact H _; with_reducible refine jR trivial ?_
 with_reducible refine jE trivial ?_
 trivial
end Go.Proofs.YtlmbcoecipbblaaGreatDoor
