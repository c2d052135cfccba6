/- redlinelaw13.Of, by the engine: the same tree. redlinelaw21.Of and steps, by. -/
import Derived.Test.YtlmbcoecipbblaaGreatDoorGpE
set_option maxRecDepth 100000
set_option maxHeartbeats 8000000
set_option linter.unusedVariables false
set_option linter.unusedSimpArgs false
namespace Go.Proofs.YtlmbcoecipbblaaGreatDoor
open Go.RowKit
open Val (V E vmx vmxF vmxL vmxP)
def outC (vc : List DV) (x3 x5 x6 : PV) : List PV := [.d fun _ => cellAt vc 0, .d fun _ => cellAt vc 1, .d fun _ => cellAt vc 2, x3, .d fun _ => cellAt vc 4, x5, x6]
def oS (vc : List DV) (ls is_ ns : Nat) (fl : List (List DV)) (i : Nat) (x3 x5 x6 : PV) (t n : Nat) (ol : List (List DV)) : Go.Proofs.YtlmbcoecipbblaaGreatDoor.St := ⟨[(1, .ptr 0 0), (2, .ptr 1 0), (3, .ptr 2 0), (ls, .d fun _ => .sl fl), (ns, .d fun _ => .lit (.int .i64 fl.length)), (is_, .d fun _ => .lit (.int .i64 i))],
 [(0, .blk (cellsP 7 vc)), (1, .blk (List.replicate 7 .dead)), (2, .blk (outC vc x3 x5 x6)), (3, .row 4 t n fun _ => ol)], 5, 0⟩
def oQ (vc : List DV) (x3 x5 x6 : PV) : Go.Proofs.YtlmbcoecipbblaaGreatDoor.St := ⟨[(1, .ptr 0 0), (2, .ptr 1 0), (3, .ptr 2 0)], [(0, .blk (cellsP 7 vc)), (1, .blk (List.replicate 7 .dead)), (2, .blk (outC vc x3 x5 x6))], 3, 0⟩
def OfV (x : V) : Prop := ∀ (G : List (Nat × List DV)) (xc : List DV), xc = encV x → ∀ fr, PRun Tryz.prog G 15 [.agg (cellsP 7 xc)] [] fr (.agg (cellsP 7 xc)) []
theorem vof_run (x : V) (hf : x.fields.length ≤ 1000000) (hl : x.list.length ≤ 1000000) (hp : x.pairs.length ≤ 1000000)
  (HF : ∀ y ∈ x.fields, OfV y.2) (HL : ∀ y ∈ x.list, OfV y) (HP : ∀ y ∈ x.pairs, OfV y.1 ∧ OfV y.2) : OfV x := fun G vc hx fr => by
 obtain ⟨fl, hfl⟩ : ∃ l, l = encF x.fields := ⟨_, rfl⟩
 obtain ⟨ll, hll⟩ : ∃ z, z = encL x.list := ⟨_, rfl⟩
 obtain ⟨pl, hpl⟩ : ∃ l, l = encP x.pairs := ⟨_, rfl⟩
 have X := cV x; rw [← hx] at X
 obtain ⟨_, _, _, x3, _, x5, x6⟩ := X
 have x3 : cellAt vc 3 = .sl fl := by rw [hfl]; exact x3
 have x5 : cellAt vc 5 = .sl ll := by rw [hll]; exact x5
 have x6 : cellAt vc 6 = .sl pl := by rw [hpl]; exact x6
 have hf' : fl.length ≤ 1000000 := by rw [hfl, encF_length]; exact hf
 have hl' : ll.length ≤ 1000000 := by rw [hll, encL_length]; exact hl
 have hp' : pl.length ≤ 1000000 := by rw [hpl, encP_length]; exact hp
 refine PRun.pure (xs := [.agg (cellsP 7 vc)]) (r1 := .agg (cellsP 7 vc)) tI_ok (by kernel_rfl) Tryz.func15 rfl rfl (by kernel_rfl) ?_
 repeat with_reducible refine jR (cellQ x3) ?_
 refine hLoop (loop_okC (ι := OX encF fl (fun y : Int × V => OfV y.2)) tI_ok (by kernel_rfl) (fun x => oS vc 20 22 21 fl x.i (.own 3 4) nilP nilP 95 8 x.ol) (fun x => x.rs.length) ⟨0, x.fields, [], hfl, rfl, HF⟩ ?_ (fun x => ?_))
 ·with_reducible refine jR trivial ?_
  and_intros <;> first | exact LeD.of rfl | exact LeD.of x3 | exact LeR.of rfl
 obtain ⟨i, rs, ol, hd, ho, hok⟩ := x
 show holds _ _ _ (ev tI G _ _ (oS vc 20 22 21 fl i (.own 3 4) nilP nilP 95 8 ol)) _
 have hi0 := Int.natCast_nonneg i
 rcases rs with _ | ⟨⟨m, y⟩, rs⟩
 rotate_left
 ·obtain ⟨qc, hqc⟩ : ∃ z, z = DV.lit (.int .i64 m) :: encV y := ⟨_, rfl⟩
  rw [encF_cells, ← hqc] at hd
  have hnx := take_next hd
  rw [← ho] at hnx
  obtain ⟨g1, g2, g3⟩ := drop_c hd
  have hw := wrap_ix g2 hf'
  have q8 : qc.length = 8 := by rw [hqc, List.length_cons, encV_len]
  have q0 : cellAt qc 0 = .lit (.int .i64 m) := by rw [hqc]; rfl
  obtain ⟨oc, hoc⟩ : ∃ z, z = encV y := ⟨_, rfl⟩
  have HY := hok _ (List.mem_cons_self ..) G oc hoc
  have HY := fun fr => (HY fr).args (args' := [.agg ((List.range 7).map fun i => (.d fun _ => cellAt qc (i + 1) : PV))]) (fun N h vs hp => by rw [cells_as (n := 7) (f := fun i => cellAt qc (i + 1)) (c := oc) (fun i _ => by rw [hqc, hoc]; rfl)] at hp; exact hp)
  obtain ⟨i2, hi2⟩ : ∃ z, z = i + 1 := ⟨_, rfl⟩
  obtain ⟨ol2, hol2⟩ : ∃ z, z = ol ++ [qc] := ⟨_, rfl⟩
  repeat with_reducible refine jR (J2 (eq_T (Int.ofNat_lt.2 g2)) (eq_T hi0)) ?_
  (with_reducible refine jI qc ?_ ?_); exact g1
  repeat with_reducible refine jR q8 ?_
  (with_reducible apply hCall); exact HY _; with_reducible refine jR trivial ?_
  repeat with_reducible refine jR trivial ?_
  with_reducible refine And.intro (of_bytes (n := 0) ho hf' rfl (by decide)) ?_
  with_reducible refine hOrd (by kernel_rfl) ?_
  repeat with_reducible refine jR hw ?_
  with_reducible refine Exists.intro ⟨i2, rs, ol2, by rw [hi2]; exact g3, by rw [hol2, hi2]; exact hnx, fun x hx => hok x (List.mem_cons_of_mem _ hx)⟩ (And.intro (Nat.lt_succ_self _) ?_)
  with_reducible refine jR trivial ?_
  subst hi2
  and_intros <;> first | exact LeD.of rfl | exact LeD.of (by rw [hw]; rfl) | exact oE1 hol2 (cells_cons (n := 7) (cc := oc) (nc := qc) q0 (by rw [hoc]; exact encV_len y) (by rw [hqc, hoc]))
 have hge := drop_n (hd.trans (by rw [encF]))
 have hta := ho.trans (take_all (hd.trans (by rw [encF])))
 repeat with_reducible refine jR hge ?_
 with_reducible refine Exists.intro (oQ vc (.d fun _ => .sl fl) nilP nilP) (And.intro ?_ ?_)
 ·with_reducible refine jR trivial ?_
  exact LeD.of (by rw [hta])
 repeat with_reducible refine jR (cellQ x5) ?_
 refine hLoop (loop_okC (ι := OX encL ll OfV) tI_ok (by kernel_rfl) (fun x => oS vc 39 41 40 ll x.i (.d fun _ => .sl fl) (.own 3 4) nilP 39 7 x.ol) (fun x => x.rs.length) ⟨0, x.list, [], hll, rfl, HL⟩ ?_ (fun x => ?_))
 ·with_reducible refine jR trivial ?_
  and_intros <;> first | exact LeD.of rfl | exact LeD.of x5 | exact LeR.of rfl
 obtain ⟨i, rs, ol, hd, ho, hok⟩ := x
 show holds _ _ _ (ev tI G _ _ (oS vc 39 41 40 ll i (.d fun _ => .sl fl) (.own 3 4) nilP 39 7 ol)) _
 have hi0 := Int.natCast_nonneg i
 rcases rs with _ | ⟨y, rs⟩
 rotate_left
 ·obtain ⟨qc, hqc⟩ : ∃ z, z = encV y := ⟨_, rfl⟩
  rw [encL, ← hqc] at hd
  have hnx := take_next hd
  rw [← ho] at hnx
  obtain ⟨g1, g2, g3⟩ := drop_c hd
  have hw := wrap_ix g2 hl'
  have q8 : qc.length = 7 := by rw [hqc, encV_len]
  have HY := hok _ (List.mem_cons_self ..) G qc hqc
  obtain ⟨i2, hi2⟩ : ∃ z, z = i + 1 := ⟨_, rfl⟩
  obtain ⟨ol2, hol2⟩ : ∃ z, z = ol ++ [qc] := ⟨_, rfl⟩
  repeat with_reducible refine jR (J2 (eq_T (Int.ofNat_lt.2 g2)) (eq_T hi0)) ?_
  (with_reducible refine jI qc ?_ ?_); exact g1
  repeat with_reducible refine jR q8 ?_
  (with_reducible apply hCall); exact HY _; with_reducible refine jR trivial ?_
  repeat with_reducible refine jR trivial ?_
  with_reducible refine And.intro (of_bytes (n := 0) ho hl' rfl (by decide)) ?_
  with_reducible refine hOrd (by kernel_rfl) ?_
  repeat with_reducible refine jR hw ?_
  with_reducible refine Exists.intro ⟨i2, rs, ol2, by rw [hi2]; exact g3, by rw [hol2, hi2]; exact hnx, fun x hx => hok x (List.mem_cons_of_mem _ hx)⟩ (And.intro (Nat.lt_succ_self _) ?_)
  with_reducible refine jR trivial ?_
  subst hi2
  and_intros <;> first | exact LeD.of rfl | exact LeD.of (by rw [hw]; rfl) | exact oE1 hol2 (cells_all q8)
 have hge := drop_n (hd.trans (by rw [encL]))
 have hta := ho.trans (take_all (hd.trans (by rw [encL])))
 repeat with_reducible refine jR hge ?_
 with_reducible refine Exists.intro (oQ vc (.d fun _ => .sl fl) (.d fun _ => .sl ll) nilP) (And.intro ?_ ?_)
 ·with_reducible refine jR trivial ?_
  exact LeD.of (by rw [hta])
 repeat with_reducible refine jR (cellQ x6) ?_
 refine hLoop (loop_okC (ι := OX encP pl (fun y : V × V => OfV y.1 ∧ OfV y.2)) tI_ok (by kernel_rfl) (fun x => oS vc 54 56 55 pl x.i (.d fun _ => .sl fl) (.d fun _ => .sl ll) (.own 3 4) 99 14 x.ol) (fun x => x.rs.length) ⟨0, x.pairs, [], hpl, rfl, HP⟩ ?_ (fun x => ?_))
 ·with_reducible refine jR trivial ?_
  and_intros <;> first | exact LeD.of rfl | exact LeD.of x6 | exact LeR.of rfl
 obtain ⟨i, rs, ol, hd, ho, hok⟩ := x
 show holds _ _ _ (ev tI G _ _ (oS vc 54 56 55 pl i (.d fun _ => .sl fl) (.d fun _ => .sl ll) (.own 3 4) 99 14 ol)) _
 have hi0 := Int.natCast_nonneg i
 rcases rs with _ | ⟨⟨m, y⟩, rs⟩
 rotate_left
 ·obtain ⟨qc, hqc⟩ : ∃ z, z = encV m ++ encV y := ⟨_, rfl⟩
  rw [encP, ← hqc] at hd
  have hnx := take_next hd
  rw [← ho] at hnx
  obtain ⟨g1, g2, g3⟩ := drop_c hd
  have hw := wrap_ix g2 hp'
  have q8 : qc.length = 14 := by rw [hqc, List.length_append, encV_len, encV_len]
  obtain ⟨mc, hmc⟩ : ∃ z, z = encV m := ⟨_, rfl⟩
  obtain ⟨oc, hoc⟩ : ∃ z, z = encV y := ⟨_, rfl⟩
  have HM := (hok _ (List.mem_cons_self ..)).1 G mc hmc
  have HM := fun fr => (HM fr).args (args' := [.agg ((List.range 7).map fun i => (.d fun _ => cellAt qc i : PV))]) (fun N h vs hp => by rw [cells_as (n := 7) (f := fun i => cellAt qc i) (c := mc) (fun i h => by rw [hqc, hmc]; exact cell_app1 (by rw [encV_len]; exact h))] at hp; exact hp)
  have HY := (hok _ (List.mem_cons_self ..)).2 G oc hoc
  have HY := fun fr => (HY fr).args (args' := [.agg ((List.range 7).map fun i => (.d fun _ => cellAt qc (i + 7) : PV))]) (fun N h vs hp => by rw [cells_as (n := 7) (f := fun i => cellAt qc (i + 7)) (c := oc) (fun i _ => by rw [hqc, hoc]; exact cell_app2 (encV_len m))] at hp; exact hp)
  obtain ⟨i2, hi2⟩ : ∃ z, z = i + 1 := ⟨_, rfl⟩
  obtain ⟨ol2, hol2⟩ : ∃ z, z = ol ++ [qc] := ⟨_, rfl⟩
  repeat with_reducible refine jR (J2 (eq_T (Int.ofNat_lt.2 g2)) (eq_T hi0)) ?_
  (with_reducible refine jI qc ?_ ?_); exact g1
  repeat with_reducible refine jR q8 ?_
  (with_reducible apply hCall); exact HM _; with_reducible refine jR trivial ?_
  repeat with_reducible refine jR trivial ?_
  (with_reducible apply hCall); exact HY _; with_reducible refine jR trivial ?_
  repeat with_reducible refine jR trivial ?_
  with_reducible refine And.intro (of_bytes (n := 0) ho hp' rfl (by decide)) ?_
  with_reducible refine hOrd (by kernel_rfl) ?_
  repeat with_reducible refine jR hw ?_
  with_reducible refine Exists.intro ⟨i2, rs, ol2, by rw [hi2]; exact g3, by rw [hol2, hi2]; exact hnx, fun x hx => hok x (List.mem_cons_of_mem _ hx)⟩ (And.intro (Nat.lt_succ_self _) ?_)
  with_reducible refine jR trivial ?_
  subst hi2
  and_intros <;> first | exact LeD.of rfl | exact LeD.of (by rw [hw]; rfl) | exact oE1 hol2 (cells_two (qc := mc) (vc := mc) (cc := oc) (nc := qc) (m := 7) (n := 7) (fun i h => rfl) (by rw [hmc]; exact encV_len m) (by rw [hoc]; exact encV_len y) (by rw [hqc, hmc, hoc]))
 have hge := drop_n (hd.trans (by rw [encP]))
 have hta := ho.trans (take_all (hd.trans (by rw [encP])))
 repeat with_reducible refine jR hge ?_
 with_reducible refine Exists.intro (oQ vc (.d fun _ => .sl fl) (.d fun _ => .sl ll) (.d fun _ => .sl pl)) (And.intro ?_ ?_)
 ·with_reducible refine jR trivial ?_
  exact LeD.of (by rw [hta])
 repeat with_reducible refine jR trivial ?_ 
 with_reducible refine jE trivial ?_
 simp only [x3, x5, x6, eS]
mutual
theorem vof_all : ∀ x : V, vmx x ≤ 1000000 → OfV x
 | .mk k n t f r l p, h => by
  have hp := Val.vmx_parts (.mk k n t f r l p)
  have h1 : f.length ≤ vmx (.mk k n t f r l p) := hp.1
  have h2 : vmxF f ≤ vmx (.mk k n t f r l p) := hp.2.1
  have h3 : l.length ≤ vmx (.mk k n t f r l p) := hp.2.2.1
  have h4 : vmxL l ≤ vmx (.mk k n t f r l p) := hp.2.2.2.1
  have h5 : p.length ≤ vmx (.mk k n t f r l p) := hp.2.2.2.2.1
  have h6 : vmxP p ≤ vmx (.mk k n t f r l p) := hp.2.2.2.2.2
  exact vof_run (.mk k n t f r l p) (show f.length ≤ _ by omega) (show l.length ≤ _ by omega) (show p.length ≤ _ by omega) (vofF f (by omega)) (vofL l (by omega)) (vofP p (by omega))
theorem vofF : ∀ f : List (Int × V), vmxF f ≤ 1000000 → ∀ x ∈ f, OfV x.2
 | [], _, x, hx => absurd hx (by simp)
 | (n, y) :: r, h, x, hx => by
  rw [vmxF] at h
  rcases List.mem_cons.1 hx with hx | hx
  ·rw [hx]; exact vof_all y (by omega)
  ·exact vofF r (by omega) x hx
theorem vofL : ∀ f : List V, vmxL f ≤ 1000000 → ∀ x ∈ f, OfV x
 | [], _, x, hx => absurd hx (by simp)
 | y :: r, h, x, hx => by
  rw [vmxL] at h
  rcases List.mem_cons.1 hx with hx | hx
  ·rw [hx]; exact vof_all y (by omega)
  ·exact vofL r (by omega) x hx
theorem vofP : ∀ f : List (V × V), vmxP f ≤ 1000000 → ∀ x ∈ f, OfV x.1 ∧ OfV x.2
 | [], _, x, hx => absurd hx (by simp)
 | (n, y) :: r, h, x, hx => by
  rw [vmxP] at h
  rcases List.mem_cons.1 hx with hx | hx
  ·rw [hx]; exact ⟨vof_all n (by omega), vof_all y (by omega)⟩
  ·exact vofP r (by omega) x hx
end
open Val (V E vmx esz eszF eszS eszK)
def OfE (x : E) : Prop := ∀ (G : List (Nat × List DV)) (xc : List DV), xc = encE x → ∀ fr, PRun Tryz.prog G 6 [.agg (cellsP 21 xc)] [] fr (.agg (cellsP 21 xc)) []
def eoT (ls is_ ns : Nat) (fl : List (List DV)) (i : Nat) (x3 : PV) (t n : Nat) (ol : List (List DV)) : Go.Proofs.YtlmbcoecipbblaaGreatDoor.St := ⟨[(3, x3), (ls, .d fun _ => .sl fl), (ns, .d fun _ => .lit (.int .i64 fl.length)), (is_, .d fun _ => .lit (.int .i64 i))], [(3, .row 4 t n fun _ => ol)], 5, 0⟩
def eoU (fl : List (List DV)) : Go.Proofs.YtlmbcoecipbblaaGreatDoor.St := ⟨[(3, .d fun _ => .sl fl)], [], 0, 0⟩
def outE (vc : List DV) (x15 x20 : PV) (sl : List (List DV)) : List PV := ((List.range 15).map fun i => (.d fun _ => cellAt vc i : PV)) ++ [x15, .d fun _ => cellAt vc 16, .d fun _ => cellAt vc 17, .d fun _ => cellAt vc 18, .d fun _ => .sl sl, x20]
def eoS (vc : List DV) (sl : List (List DV)) (ls is_ ns : Nat) (fl : List (List DV)) (i : Nat) (x15 x20 : PV) (t n : Nat) (ol : List (List DV)) : Go.Proofs.YtlmbcoecipbblaaGreatDoor.St := ⟨[(1, .ptr 0 0), (2, .ptr 1 0), (3, .ptr 2 0), (ls, .d fun _ => .sl fl), (ns, .d fun _ => .lit (.int .i64 fl.length)), (is_, .d fun _ => .lit (.int .i64 i))],
 [(0, .blk (cellsP 21 vc)), (1, .blk (List.replicate 21 .dead)), (2, .blk (outE vc x15 x20 sl)), (3, .row 4 t n fun _ => ol)], 5, 0⟩
def eoQ (vc : List DV) (sl : List (List DV)) (x15 x20 : PV) : Go.Proofs.YtlmbcoecipbblaaGreatDoor.St := ⟨[(1, .ptr 0 0), (2, .ptr 1 0), (3, .ptr 2 0)], [(0, .blk (cellsP 21 vc)), (1, .blk (List.replicate 21 .dead)), (2, .blk (outE vc x15 x20 sl))], 3, 0⟩
theorem cells_step {qc vc cc : List DV} {a b : DV} (k0 : cellAt qc 0 = a) (k1 : cellAt qc 1 = b) (hv : vc.length = 7) (h : cc.length = 21) (hn : qc = a :: b :: (vc ++ cc)) : elemsV [(fun _ => cellAt qc 0) :: (fun _ => cellAt qc 1) :: (((List.range 7).map fun i => fun _ => cellAt vc i) ++ (List.range 21).map fun i => fun _ => cellAt cc i)] = [qc] := by
 have h1 := cells_two (qc := vc) (vc := vc) (cc := cc) (nc := vc ++ cc) (fun i _ => rfl) hv h rfl
 unfold elemsV at h1 ⊢
 simp only [List.map_cons, List.map_nil] at h1 ⊢
 rw [(List.cons.inj h1).1, k0, k1, hn]
theorem esteps_run (l : List (Int × Int × V × E)) (hl : l.length ≤ 1000000) (HS : ∀ y ∈ l, OfV y.2.2.1 ∧ OfE y.2.2.2) (G : List (Nat × List DV)) (sl : List (List DV)) (hsl : sl = encES l) (fr : List Nat) : PRun Tryz.prog G 16 [.d fun _ => .sl sl] [] fr (.d fun _ => .sl sl) [] := by
 have hs' : sl.length ≤ 1000000 := by rw [hsl, encES_length]; exact hl
 refine PRun.pure (xs := [.d fun _ => .sl sl]) (r1 := .d fun _ => .sl sl) tI_ok (by kernel_rfl) Tryz.func16 rfl rfl (by kernel_rfl) ?_
 repeat with_reducible refine jR trivial ?_
 refine hLoop (loop_okC (ι := OX encES sl (fun y : Int × Int × V × E => OfV y.2.2.1 ∧ OfE y.2.2.2)) tI_ok (by kernel_rfl) (fun x => eoT 7 9 8 sl x.i (.own 3 4) 75 30 x.ol) (fun x => x.rs.length) ⟨0, l, [], hsl, rfl, HS⟩ ?_ (fun x => ?_))
 ·with_reducible refine jR trivial ?_
  and_intros <;> first | exact LeD.of rfl | exact LeD.of rfl | exact LeR.of rfl
 obtain ⟨i, rs, ol, hd, ho, hok⟩ := x
 show holds _ _ _ (ev tI G _ _ (eoT 7 9 8 sl i (.own 3 4) 75 30 ol)) _
 have hi0 := Int.natCast_nonneg i
 rcases rs with _ | ⟨⟨k, c, v, y⟩, rs⟩
 rotate_left
 ·obtain ⟨qc, hqc⟩ : ∃ z, z = DV.lit (.int .i64 k) :: .lit (.int .i64 c) :: (encV v ++ encE y) := ⟨_, rfl⟩
  rw [encES, ← hqc] at hd
  have hnx := take_next hd
  rw [← ho] at hnx
  obtain ⟨g1, g2, g3⟩ := drop_c hd
  have hw := wrap_ix g2 hs'
  have q8 : qc.length = 30 := by rw [hqc, List.length_cons, List.length_cons, List.length_append, encV_len, encE_len]
  have q0 : cellAt qc 0 = .lit (.int .i64 k) := by rw [hqc]; rfl
  have q1 : cellAt qc 1 = .lit (.int .i64 c) := by rw [hqc]; rfl
  obtain ⟨mc, hmc⟩ : ∃ z, z = encV v := ⟨_, rfl⟩
  obtain ⟨oc, hoc⟩ : ∃ z, z = encE y := ⟨_, rfl⟩
  have HM := (hok _ (List.mem_cons_self ..)).1 G mc hmc
  have HM := fun fr => (HM fr).args (args' := [.agg ((List.range 7).map fun i => (.d fun _ => cellAt qc (i + 2) : PV))]) (fun N h vs hp => by rw [cells_as (n := 7) (f := fun i => cellAt qc (i + 2)) (c := mc) (fun i h => by rw [hqc, hmc]; exact cell_app1 (by rw [encV_len]; exact h))] at hp; exact hp)
  have HY := (hok _ (List.mem_cons_self ..)).2 G oc hoc
  have HY := fun fr => (HY fr).args (args' := [.agg ((List.range 21).map fun i => (.d fun _ => cellAt qc (i + 9) : PV))]) (fun N h vs hp => by rw [cells_as (n := 21) (f := fun i => cellAt qc (i + 9)) (c := oc) (fun i _ => by rw [hqc, hoc]; exact cell_app2 (encV_len v))] at hp; exact hp)
  obtain ⟨i2, hi2⟩ : ∃ z, z = i + 1 := ⟨_, rfl⟩
  obtain ⟨ol2, hol2⟩ : ∃ z, z = ol ++ [qc] := ⟨_, rfl⟩
  repeat with_reducible refine jR (J2 (eq_T (Int.ofNat_lt.2 g2)) (eq_T hi0)) ?_
  (with_reducible refine jI qc ?_ ?_); exact g1
  repeat with_reducible refine jR q8 ?_
  (with_reducible apply hCall); exact HM _; with_reducible refine jR trivial ?_
  repeat with_reducible refine jR trivial ?_
  (with_reducible apply hCall); exact HY _; with_reducible refine jR trivial ?_
  repeat with_reducible refine jR trivial ?_
  with_reducible refine And.intro (of_bytes (n := 0) ho hs' rfl (by decide)) ?_
  with_reducible refine hOrd (by kernel_rfl) ?_
  repeat with_reducible refine jR hw ?_
  with_reducible refine Exists.intro ⟨i2, rs, ol2, by rw [hi2]; exact g3, by rw [hol2, hi2]; exact hnx, fun x hx => hok x (List.mem_cons_of_mem _ hx)⟩ (And.intro (Nat.lt_succ_self _) ?_)
  with_reducible refine jR trivial ?_
  subst hi2
  and_intros <;> first | exact LeD.of rfl | exact LeD.of (by rw [hw]; rfl) | exact oE1 hol2 (cells_step q0 q1 (by rw [hmc]; exact encV_len v) (by rw [hoc]; exact encE_len y) (by rw [hqc, hmc, hoc]))
 have hge := drop_n (hd.trans (by rw [encES]))
 have hta := ho.trans (take_all (hd.trans (by rw [encES])))
 repeat with_reducible refine jR hge ?_
 with_reducible refine Exists.intro (eoU sl) (And.intro ?_ ?_)
 ·with_reducible refine jR trivial ?_
  exact LeD.of (by rw [hta])
 repeat with_reducible refine jR trivial ?_ 
 with_reducible refine jE trivial ?_
 trivial
theorem eof_run (x : E) (hf : x.fields.length ≤ 1000000) (hl : x.steps.length ≤ 1000000) (hp : x.keys.length ≤ 1000000) (HO : OfV x.old) (HN : OfV x.new)
  (HF : ∀ y ∈ x.fields, OfE y.2) (HS : ∀ y ∈ x.steps, OfV y.2.2.1 ∧ OfE y.2.2.2) (HP : ∀ y ∈ x.keys, OfV y.1 ∧ OfE y.2) : OfE x := fun G vc hx fr => by
 obtain ⟨fl, hfl⟩ : ∃ l, l = encEF x.fields := ⟨_, rfl⟩
 obtain ⟨sl, hsl⟩ : ∃ z, z = encES x.steps := ⟨_, rfl⟩
 obtain ⟨pl, hpl⟩ : ∃ l, l = encEK x.keys := ⟨_, rfl⟩
 have X := cE x; rw [← hx] at X
 obtain ⟨_, xo, xn, x15, _, _, _, x19, x20⟩ := X
 rw [← hfl] at x15
 rw [← hsl] at x19
 rw [← hpl] at x20
 have hf' : fl.length ≤ 1000000 := by rw [hfl, encEF_length]; exact hf
 have hp' : pl.length ≤ 1000000 := by rw [hpl, encEK_length]; exact hp
 obtain ⟨co, hco⟩ : ∃ z, z = encV x.old := ⟨_, rfl⟩
 obtain ⟨cn, hcn⟩ : ∃ z, z = encV x.new := ⟨_, rfl⟩
 rw [← hco] at xo
 rw [← hcn] at xn
 have HO := fun fr => (HO G co hco fr).args (args' := [.agg ((List.range 7).map fun i => (.d fun _ => cellAt vc (i + 1) : PV))]) (fun N h vs hp => by rw [cells_as (n := 7) (f := fun i => cellAt vc (i + 1)) (c := co) (fun i h => xo i h)] at hp; exact hp)
 have HN := fun fr => (HN G cn hcn fr).args (args' := [.agg ((List.range 7).map fun i => (.d fun _ => cellAt vc (i + 8) : PV))]) (fun N h vs hp => by rw [cells_as (n := 7) (f := fun i => cellAt vc (i + 8)) (c := cn) (fun i h => xn i h)] at hp; exact hp)
 have HT := fun fr => esteps_run x.steps hl HS G sl hsl fr
 have HT := fun fr => (HT fr).args (args' := [.d fun _ => cellAt vc 19]) (fun N h vs hp => by rw [x19] at hp; exact hp)
 refine PRun.pure (xs := [.agg (cellsP 21 vc)]) (r1 := .agg (cellsP 21 vc)) tI_ok (by kernel_rfl) Tryz.func6 rfl rfl (by kernel_rfl) ?_
 repeat with_reducible refine jR trivial ?_
 (with_reducible apply hCall); exact HO _; with_reducible refine jR trivial ?_
 repeat with_reducible refine jR trivial ?_
 (with_reducible apply hCall); exact HN _; with_reducible refine jR trivial ?_
 repeat with_reducible refine jR trivial ?_
 (with_reducible apply hCall); exact HT _; with_reducible refine jR (cellQ x15) ?_
 repeat with_reducible refine jR (cellQ x15) ?_
 refine hLoop (loop_okC (ι := OX encEF fl (fun y : Int × E => OfE y.2)) tI_ok (by kernel_rfl) (fun x => eoS vc sl 27 29 28 fl x.i (.own 3 4) nilP 62 22 x.ol) (fun x => x.rs.length) ⟨0, x.fields, [], hfl, rfl, HF⟩ ?_ (fun x => ?_))
 ·with_reducible refine jR trivial ?_
  and_intros <;> first | exact LeD.of rfl | exact LeD.of x15 | exact LeD.of (xo _ (by decide)).symm | exact LeD.of (xn _ (by decide)).symm | exact LeD.of x19 | exact LeR.of rfl
 obtain ⟨i, rs, ol, hd, ho, hok⟩ := x
 show holds _ _ _ (ev tI G _ _ (eoS vc sl 27 29 28 fl i (.own 3 4) nilP 62 22 ol)) _
 have hi0 := Int.natCast_nonneg i
 rcases rs with _ | ⟨⟨m, y⟩, rs⟩
 rotate_left
 ·obtain ⟨qc, hqc⟩ : ∃ z, z = DV.lit (.int .i64 m) :: encE y := ⟨_, rfl⟩
  rw [encEF, ← hqc] at hd
  have hnx := take_next hd
  rw [← ho] at hnx
  obtain ⟨g1, g2, g3⟩ := drop_c hd
  have hw := wrap_ix g2 hf'
  have q8 : qc.length = 22 := by rw [hqc, List.length_cons, encE_len]
  have q0 : cellAt qc 0 = .lit (.int .i64 m) := by rw [hqc]; rfl
  obtain ⟨oc, hoc⟩ : ∃ z, z = encE y := ⟨_, rfl⟩
  have HY := hok _ (List.mem_cons_self ..) G oc hoc
  have HY := fun fr => (HY fr).args (args' := [.agg ((List.range 21).map fun i => (.d fun _ => cellAt qc (i + 1) : PV))]) (fun N h vs hp => by rw [cells_as (n := 21) (f := fun i => cellAt qc (i + 1)) (c := oc) (fun i _ => by rw [hqc, hoc]; rfl)] at hp; exact hp)
  obtain ⟨i2, hi2⟩ : ∃ z, z = i + 1 := ⟨_, rfl⟩
  obtain ⟨ol2, hol2⟩ : ∃ z, z = ol ++ [qc] := ⟨_, rfl⟩
  repeat with_reducible refine jR (J2 (eq_T (Int.ofNat_lt.2 g2)) (eq_T hi0)) ?_
  (with_reducible refine jI qc ?_ ?_); exact g1
  repeat with_reducible refine jR q8 ?_
  (with_reducible apply hCall); exact HY _; with_reducible refine jR trivial ?_
  repeat with_reducible refine jR trivial ?_
  with_reducible refine And.intro (of_bytes (n := 0) ho hf' rfl (by decide)) ?_
  with_reducible refine hOrd (by kernel_rfl) ?_
  repeat with_reducible refine jR hw ?_
  with_reducible refine Exists.intro ⟨i2, rs, ol2, by rw [hi2]; exact g3, by rw [hol2, hi2]; exact hnx, fun x hx => hok x (List.mem_cons_of_mem _ hx)⟩ (And.intro (Nat.lt_succ_self _) ?_)
  with_reducible refine jR trivial ?_
  subst hi2
  and_intros <;> first | exact LeD.of rfl | exact LeD.of (by rw [hw]; rfl) | exact oE1 hol2 (cells_cons (n := 21) (cc := oc) (nc := qc) q0 (by rw [hoc]; exact encE_len y) (by rw [hqc, hoc]))
 have hge := drop_n (hd.trans (by rw [encEF]))
 have hta := ho.trans (take_all (hd.trans (by rw [encEF])))
 repeat with_reducible refine jR hge ?_
 with_reducible refine Exists.intro (eoQ vc sl (.d fun _ => .sl fl) nilP) (And.intro ?_ ?_)
 ·with_reducible refine jR trivial ?_
  exact LeD.of (by rw [hta])
 repeat with_reducible refine jR (cellQ x20) ?_
 refine hLoop (loop_okC (ι := OX encEK pl (fun y : V × E => OfV y.1 ∧ OfE y.2)) tI_ok (by kernel_rfl) (fun x => eoS vc sl 46 48 47 pl x.i (.d fun _ => .sl fl) (.own 3 4) 66 28 x.ol) (fun x => x.rs.length) ⟨0, x.keys, [], hpl, rfl, HP⟩ ?_ (fun x => ?_))
 ·with_reducible refine jR trivial ?_
  and_intros <;> first | exact LeD.of rfl | exact LeD.of x20 | exact LeR.of rfl
 obtain ⟨i, rs, ol, hd, ho, hok⟩ := x
 show holds _ _ _ (ev tI G _ _ (eoS vc sl 46 48 47 pl i (.d fun _ => .sl fl) (.own 3 4) 66 28 ol)) _
 have hi0 := Int.natCast_nonneg i
 rcases rs with _ | ⟨⟨m, y⟩, rs⟩
 rotate_left
 ·obtain ⟨qc, hqc⟩ : ∃ z, z = encV m ++ encE y := ⟨_, rfl⟩
  rw [encEK, ← hqc] at hd
  have hnx := take_next hd
  rw [← ho] at hnx
  obtain ⟨g1, g2, g3⟩ := drop_c hd
  have hw := wrap_ix g2 hp'
  have q8 : qc.length = 28 := by rw [hqc, List.length_append, encV_len, encE_len]
  obtain ⟨mc, hmc⟩ : ∃ z, z = encV m := ⟨_, rfl⟩
  obtain ⟨oc, hoc⟩ : ∃ z, z = encE y := ⟨_, rfl⟩
  have HM := (hok _ (List.mem_cons_self ..)).1 G mc hmc
  have HM := fun fr => (HM fr).args (args' := [.agg ((List.range 7).map fun i => (.d fun _ => cellAt qc i : PV))]) (fun N h vs hp => by rw [cells_as (n := 7) (f := fun i => cellAt qc i) (c := mc) (fun i h => by rw [hqc, hmc]; exact cell_app1 (by rw [encV_len]; exact h))] at hp; exact hp)
  have HY := (hok _ (List.mem_cons_self ..)).2 G oc hoc
  have HY := fun fr => (HY fr).args (args' := [.agg ((List.range 21).map fun i => (.d fun _ => cellAt qc (i + 7) : PV))]) (fun N h vs hp => by rw [cells_as (n := 21) (f := fun i => cellAt qc (i + 7)) (c := oc) (fun i _ => by rw [hqc, hoc]; exact cell_app2 (encV_len m))] at hp; exact hp)
  obtain ⟨i2, hi2⟩ : ∃ z, z = i + 1 := ⟨_, rfl⟩
  obtain ⟨ol2, hol2⟩ : ∃ z, z = ol ++ [qc] := ⟨_, rfl⟩
  repeat with_reducible refine jR (J2 (eq_T (Int.ofNat_lt.2 g2)) (eq_T hi0)) ?_
  (with_reducible refine jI qc ?_ ?_); exact g1
  repeat with_reducible refine jR q8 ?_
  (with_reducible apply hCall); exact HM _; with_reducible refine jR trivial ?_
  repeat with_reducible refine jR trivial ?_
  (with_reducible apply hCall); exact HY _; with_reducible refine jR trivial ?_
  repeat with_reducible refine jR trivial ?_
  with_reducible refine And.intro (of_bytes (n := 0) ho hp' rfl (by decide)) ?_
  with_reducible refine hOrd (by kernel_rfl) ?_
  repeat with_reducible refine jR hw ?_
  with_reducible refine Exists.intro ⟨i2, rs, ol2, by rw [hi2]; exact g3, by rw [hol2, hi2]; exact hnx, fun x hx => hok x (List.mem_cons_of_mem _ hx)⟩ (And.intro (Nat.lt_succ_self _) ?_)
  with_reducible refine jR trivial ?_
  subst hi2
  and_intros <;> first | exact LeD.of rfl | exact LeD.of (by rw [hw]; rfl) | exact oE1 hol2 (cells_two (qc := mc) (vc := mc) (cc := oc) (nc := qc) (m := 7) (n := 21) (fun i h => rfl) (by rw [hmc]; exact encV_len m) (by rw [hoc]; exact encE_len y) (by rw [hqc, hmc, hoc]))
 have hge := drop_n (hd.trans (by rw [encEK]))
 have hta := ho.trans (take_all (hd.trans (by rw [encEK])))
 repeat with_reducible refine jR hge ?_
 with_reducible refine Exists.intro (eoQ vc sl (.d fun _ => .sl fl) (.d fun _ => .sl pl)) (And.intro ?_ ?_)
 ·with_reducible refine jR trivial ?_
  exact LeD.of (by rw [hta])
 repeat with_reducible refine jR trivial ?_ 
 with_reducible refine jE trivial ?_
 simp only [x15, x19, x20, eS]
mutual
theorem eof_all : ∀ x : E, esz x ≤ 900000 → OfE x
 | .mk k o n f r ro rn s ks, h => by
  rw [esz] at h
  have z1 := eszF_length f; have z2 := eszS_length s; have z3 := eszK_length ks
  exact eof_run (.mk k o n f r ro rn s ks) (show f.length ≤ _ by omega) (show s.length ≤ _ by omega) (show ks.length ≤ _ by omega) (vof_all o (by omega)) (vof_all n (by omega)) (eofF f (by omega)) (eofS s (by omega)) (eofK ks (by omega))
theorem eofF : ∀ f : List (Int × E), eszF f ≤ 900000 → ∀ x ∈ f, OfE x.2
 | [], _, x, hx => absurd hx (by simp)
 | (n, y) :: r, h, x, hx => by
  rw [eszF] at h
  rcases List.mem_cons.1 hx with hx | hx
  ·rw [hx]; exact eof_all y (by omega)
  ·exact eofF r (by omega) x hx
theorem eofS : ∀ f : List (Int × Int × V × E), eszS f ≤ 900000 → ∀ x ∈ f, OfV x.2.2.1 ∧ OfE x.2.2.2
 | [], _, x, hx => absurd hx (by simp)
 | (k, c, v, y) :: r, h, x, hx => by
  rw [eszS] at h
  rcases List.mem_cons.1 hx with hx | hx
  ·rw [hx]; exact ⟨vof_all v (by omega), eof_all y (by omega)⟩
  ·exact eofS r (by omega) x hx
theorem eofK : ∀ f : List (V × E), eszK f ≤ 900000 → ∀ x ∈ f, OfV x.1 ∧ OfE x.2
 | [], _, x, hx => absurd hx (by simp)
 | (n, y) :: r, h, x, hx => by
  rw [eszK] at h
  rcases List.mem_cons.1 hx with hx | hx
  ·rw [hx]; exact ⟨vof_all n (by omega), eof_all y (by omega)⟩
  ·exact eofK r (by omega) x hx
end
end Go.Proofs.YtlmbcoecipbblaaGreatDoor
