/- redlineref21.Equal on two readings of one tree, by the engine. -/
import Derived.Test.YtlmbcoecipbblaaGreatDoorGpP
import Derived.Test.YtlmbcoecipbblaaGreatDoorECm
set_option maxRecDepth 100000
set_option maxHeartbeats 8000000
set_option linter.unusedVariables false
set_option linter.unusedSimpArgs false
namespace Go.Proofs.YtlmbcoecipbblaaGreatDoor
open Go.RowKit
open Val (V E right cmp eright ado Res avalue esm esmF esmS esmK vmx esz eszF eszS eszK e0 swapE swapF PairP inv)
structure QX {α : Type} (enc : List α → List (List DV)) (fl : List (List DV)) (ok : α → Prop) where
 i : Nat
 rs : List α
 hd : fl.drop i = enc rs
 hok : ∀ x ∈ rs, ok x
def eqS (ec : List DV) (ls is_ ns : Nat) (fl : List (List DV)) (i : Nat) : Go.Proofs.YtlmbcoecipbblaaGreatDoor.St := ⟨[(2, .ptr 0 0), (3, .ptr 1 0), (ls, .d fun _ => .sl fl), (ns, .d fun _ => .lit (.int .i64 fl.length)), (is_, .d fun _ => .lit (.int .i64 i))], [(0, .blk (cellsP 21 ec)), (1, .blk (cellsP 21 ec))], 2, 0⟩
def eqQ (ec : List DV) : Go.Proofs.YtlmbcoecipbblaaGreatDoor.St := ⟨[(2, .ptr 0 0), (3, .ptr 1 0)], [(0, .blk (cellsP 21 ec)), (1, .blk (cellsP 21 ec))], 2, 0⟩
def EqN (y : E) : Prop := ∀ (G : List (Nat × List DV)) (xc : List DV), xc = encE y → ∀ fr, PRun Tryz.prog G 10 [.agg (cellsP 21 xc), .agg (cellsP 21 xc)] [] fr (.d fun _ => .lit (.bool true)) []
theorem requal_run (x : E) (hx : esz x ≤ 90000) (HF : ∀ f ∈ x.fields, EqN f.2) (HS : ∀ s ∈ x.steps, EqN s.2.2.2) (HK : ∀ k ∈ x.keys, EqN k.2) : EqN x := fun G xc he fr => by
 have pd := Val.esz_parts x
 have z1 := eszF_length x.fields; have z2 := eszS_length x.steps; have z3 := eszK_length x.keys
 obtain ⟨fl, hfl⟩ : ∃ l, l = encEF x.fields := ⟨_, rfl⟩
 obtain ⟨sl, hsl⟩ : ∃ l, l = encES x.steps := ⟨_, rfl⟩
 obtain ⟨kl, hkl⟩ : ∃ l, l = encEK x.keys := ⟨_, rfl⟩
 have x0 : cellAt xc 0 = .lit (.int .i64 x.kind) := by rw [he]; exact (cE x).1
 have x15 : cellAt xc 15 = .sl fl := by rw [he, hfl]; exact (cE x).2.2.2.1
 have x16 : cellAt xc 16 = .lit (.bool x.rests) := by rw [he]; exact (cE x).2.2.2.2.1
 have x17 : cellAt xc 17 = .lit (.string x.ro) := by rw [he]; exact (cE x).2.2.2.2.2.1
 have x18 : cellAt xc 18 = .lit (.string x.rn) := by rw [he]; exact (cE x).2.2.2.2.2.2.1
 have x19 : cellAt xc 19 = .sl sl := by rw [he, hsl]; exact (cE x).2.2.2.2.2.2.2.1
 have x20 : cellAt xc 20 = .sl kl := by rw [he, hkl]; exact (cE x).2.2.2.2.2.2.2.2
 have hf' : fl.length ≤ 90000 := by rw [hfl, encEF_length]; omega
 have hs' : sl.length ≤ 90000 := by rw [hsl, encES_length]; omega
 have hk' : kl.length ≤ 90000 := by rw [hkl, encEK_length]; omega
 have H1 := fun fr => rsame_run (G := G) (rfl : encV x.old = _) fr
 rw [← old_cells he] at H1
 have H2 := fun fr => rsame_run (G := G) (rfl : encV x.new = _) fr
 rw [← new_cells he] at H2
 have bb := beq_self_eq_true x.rests
 refine PRun.pure (xs := [.agg (cellsP 21 xc), .agg (cellsP 21 xc)]) (r1 := .d fun _ => .lit (.bool true)) tI_ok (by kernel_rfl) Tryz.func10 rfl rfl (by kernel_rfl) ?_
 repeat with_reducible refine jR (J7 (cellQ x0) (cellQ x16) (cellQ x17) (cellQ x18) bb (eq_self x.ro) (eq_self x.rn)) ?_
 (with_reducible apply hCall); exact H1 _; with_reducible refine jR trivial ?_
 repeat with_reducible refine jR trivial ?_
 (with_reducible apply hCall); exact H2 _; with_reducible refine jR (J3 (cellQ x15) (cellQ x19) (cellQ x20)) ?_
 repeat with_reducible refine jR (J3 (cellQ x15) (cellQ x19) (cellQ x20)) ?_
 refine hLoop (loop_okC (ι := QX encEF fl (fun f : Int × E => EqN f.2)) tI_ok (by kernel_rfl) (fun x => eqS xc 82 84 83 fl x.i) (fun x => x.rs.length) ⟨0, x.fields, hfl, HF⟩ ?_ (fun x => ?_))
 ·with_reducible refine jR trivial ?_
  and_intros <;> first | exact LeD.of rfl | exact LeD.of x15
 obtain ⟨i, rs, hd, hok⟩ := x
 show holds _ _ _ (ev tI G _ _ (eqS xc 82 84 83 fl i)) _
 have hi0 := Int.natCast_nonneg i
 rcases rs with _ | ⟨⟨m, y⟩, rs⟩
 rotate_left
 ·obtain ⟨qc, hqc⟩ : ∃ z, z = DV.lit (.int .i64 m) :: encE y := ⟨_, rfl⟩
  rw [encEF, ← hqc] at hd
  obtain ⟨g1, g2, g3⟩ := drop_c hd
  have hw := wrap_ix g2 (by omega)
  have q8 : qc.length = 22 := by rw [hqc, List.length_cons, encE_len]
  have q0 : cellAt qc 0 = .lit (.int .i64 m) := by rw [hqc]; rfl
  have HY := hok _ (List.mem_cons_self ..) G _ (rfl : encE y = _)
  rw [← cells_as (n := 21) (f := fun i => cellAt qc (i + 1)) (c := encE y) (fun i _ => by rw [hqc]; rfl)] at HY
  repeat with_reducible refine jR (J2 (eq_T (Int.ofNat_lt.2 g2)) (eq_T hi0)) ?_
  (with_reducible refine jI qc ?_ ?_); exact g1
  repeat with_reducible refine jR (J4 q8 (cellQ x15) (eq_T hi0) (cellQ q0)) ?_
  (with_reducible refine jI qc ?_ ?_); exact g1
  repeat with_reducible refine jR (J4 (eq_T hi0) q8 (cellQ q0) (cellQ x15)) ?_
  (with_reducible refine jI qc ?_ ?_); exact g1
  repeat with_reducible refine jR (J2 (eq_T hi0) q8) ?_
  (with_reducible apply hCall); exact HY _; with_reducible refine jR (eq_T hi0) ?_
  repeat with_reducible refine jR (J2 (eq_T hi0) hw) ?_
  obtain ⟨i2, hi2⟩ : ∃ z, z = i + 1 := ⟨_, rfl⟩
  with_reducible refine Exists.intro ⟨i2, rs, by rw [hi2]; exact g3, fun x hx => hok x (List.mem_cons_of_mem _ hx)⟩ (And.intro (Nat.lt_succ_self _) ?_)
  with_reducible refine jR trivial ?_
  subst hi2
  and_intros <;> first | exact LeD.of rfl | exact LeD.of (by rw [hw]; rfl)
 have hge := drop_n (hd.trans (by rw [encEF]))
 repeat with_reducible refine jR hge ?_
 with_reducible refine Exists.intro (eqQ xc) (And.intro ?_ ?_)
 ·with_reducible refine jR trivial ?_
  trivial
 repeat with_reducible refine jR (cellQ x19) ?_
 refine hLoop (loop_okC (ι := QX encES sl (fun s : Stp => EqN s.2.2.2)) tI_ok (by kernel_rfl) (fun x => eqS xc 112 114 113 sl x.i) (fun x => x.rs.length) ⟨0, x.steps, hsl, HS⟩ ?_ (fun x => ?_))
 ·with_reducible refine jR trivial ?_
  and_intros <;> first | exact LeD.of rfl | exact LeD.of x19
 obtain ⟨i, rs, hd, hok⟩ := x
 show holds _ _ _ (ev tI G _ _ (eqS xc 112 114 113 sl i)) _
 have hi0 := Int.natCast_nonneg i
 rcases rs with _ | ⟨⟨m, k, v, y⟩, rs⟩
 rotate_left
 ·obtain ⟨qc, hqc⟩ : ∃ z, z = stC (m, k, v, y) := ⟨_, rfl⟩
  rw [encES, show (DV.lit (.int .i64 m) :: DV.lit (.int .i64 k) :: (encV v ++ encE y)) = stC (m, k, v, y) from rfl, ← hqc] at hd
  obtain ⟨g1, g2, g3⟩ := drop_c hd
  have hw := wrap_ix g2 (by omega)
  have q8 : qc.length = 30 := by rw [hqc, stC_len]
  have q0 : cellAt qc 0 = .lit (.int .i64 m) := by rw [hqc]; rfl
  have q1 : cellAt qc 1 = .lit (.int .i64 k) := by rw [hqc]; rfl
  have HY := hok _ (List.mem_cons_self ..) G _ (rfl : encE y = _)
  have HV := fun fr => rsame_run (G := G) (rfl : encV v = _) fr
  rw [← cells_as (n := 21) (f := fun i => cellAt qc (i + 9)) (c := encE y) (stC_e hqc)] at HY
  rw [← cells_as (n := 7) (f := fun i => cellAt qc (i + 2)) (c := encV v) (stC_v hqc)] at HV
  repeat with_reducible refine jR (J2 (eq_T (Int.ofNat_lt.2 g2)) (eq_T hi0)) ?_
  (with_reducible refine jI qc ?_ ?_); exact g1
  repeat with_reducible refine jR (J3 q8 (cellQ x19) (eq_T hi0)) ?_
  (with_reducible refine jI qc ?_ ?_); exact g1
  repeat with_reducible refine jR (J5 (eq_T hi0) q8 (cellQ q0) (cellQ q1) (cellQ x19)) ?_
  (with_reducible apply hCall); exact HV _; with_reducible refine jR (eq_T hi0) ?_
  repeat with_reducible refine jR trivial ?_
  (with_reducible apply hCall); exact HY _; with_reducible refine jR (eq_T hi0) ?_
  repeat with_reducible refine jR (J2 (eq_T hi0) hw) ?_
  obtain ⟨i2, hi2⟩ : ∃ z, z = i + 1 := ⟨_, rfl⟩
  with_reducible refine Exists.intro ⟨i2, rs, by rw [hi2]; exact g3, fun x hx => hok x (List.mem_cons_of_mem _ hx)⟩ (And.intro (Nat.lt_succ_self _) ?_)
  with_reducible refine jR trivial ?_
  subst hi2
  and_intros <;> first | exact LeD.of rfl | exact LeD.of (by rw [hw]; rfl)
 have hge := drop_n (hd.trans (by rw [encES]))
 repeat with_reducible refine jR hge ?_
 with_reducible refine Exists.intro (eqQ xc) (And.intro ?_ ?_)
 ·with_reducible refine jR trivial ?_
  trivial
 repeat with_reducible refine jR (cellQ x20) ?_
 refine hLoop (loop_okC (ι := QX encEK kl (fun k : V × E => EqN k.2)) tI_ok (by kernel_rfl) (fun x => eqS xc 154 156 155 kl x.i) (fun x => x.rs.length) ⟨0, x.keys, hkl, HK⟩ ?_ (fun x => ?_))
 ·with_reducible refine jR trivial ?_
  and_intros <;> first | exact LeD.of rfl | exact LeD.of x20
 obtain ⟨i, rs, hd, hok⟩ := x
 show holds _ _ _ (ev tI G _ _ (eqS xc 154 156 155 kl i)) _
 have hi0 := Int.natCast_nonneg i
 rcases rs with _ | ⟨⟨v, y⟩, rs⟩
 rotate_left
 ·obtain ⟨qc, hqc⟩ : ∃ z, z = encV v ++ encE y := ⟨_, rfl⟩
  rw [encEK, ← hqc] at hd
  obtain ⟨g1, g2, g3⟩ := drop_c hd
  have hw := wrap_ix g2 (by omega)
  have q8 : qc.length = 28 := by rw [hqc, List.length_append, encV_len, encE_len]
  have HY := hok _ (List.mem_cons_self ..) G _ (rfl : encE y = _)
  have HV := fun fr => rsame_run (G := G) (rfl : encV v = _) fr
  rw [← cells_as (n := 21) (f := fun i => cellAt qc (i + 7)) (c := encE y) (fun i _ => by rw [hqc]; exact cell_app2 (encV_len v))] at HY
  rw [← cells_as (n := 7) (f := fun i => cellAt qc i) (c := encV v) (fun i h => by rw [hqc]; exact cell_app1 (by rw [encV_len]; exact h))] at HV
  repeat with_reducible refine jR (J2 (eq_T (Int.ofNat_lt.2 g2)) (eq_T hi0)) ?_
  (with_reducible refine jI qc ?_ ?_); exact g1
  repeat with_reducible refine jR (J3 q8 (cellQ x20) (eq_T hi0)) ?_
  (with_reducible refine jI qc ?_ ?_); exact g1
  repeat with_reducible refine jR (J3 (eq_T hi0) q8 (cellQ x20)) ?_
  (with_reducible apply hCall); exact HV _; with_reducible refine jR (J2 (cellQ x20) (eq_T hi0)) ?_
  repeat with_reducible refine jR (J2 (eq_T hi0) (cellQ x20)) ?_
  (with_reducible refine jI qc ?_ ?_); exact g1
  repeat with_reducible refine jR (J2 (eq_T hi0) q8) ?_
  (with_reducible apply hCall); exact HY _; with_reducible refine jR (eq_T hi0) ?_
  repeat with_reducible refine jR (J2 (eq_T hi0) hw) ?_
  obtain ⟨i2, hi2⟩ : ∃ z, z = i + 1 := ⟨_, rfl⟩
  with_reducible refine Exists.intro ⟨i2, rs, by rw [hi2]; exact g3, fun x hx => hok x (List.mem_cons_of_mem _ hx)⟩ (And.intro (Nat.lt_succ_self _) ?_)
  with_reducible refine jR trivial ?_
  subst hi2
  and_intros <;> first | exact LeD.of rfl | exact LeD.of (by rw [hw]; rfl)
 have hge := drop_n (hd.trans (by rw [encEK]))
 repeat with_reducible refine jR hge ?_
 with_reducible refine Exists.intro (eqQ xc) (And.intro ?_ ?_)
 ·with_reducible refine jR trivial ?_
  trivial
 repeat with_reducible refine jR trivial ?_ 
 with_reducible refine jE trivial ?_
 trivial
theorem requal_all : ∀ (n : Nat) (x : E), esz x < n → n ≤ 90001 → EqN x
 | 0, x, h, _ => absurd h (Nat.not_lt_zero _)
 | n + 1, x, h, hn => by
  have pd := Val.esz_parts x
  exact requal_run x (by omega) (fun q hq => requal_all n _ (by have := Val.eszF_lt q hq; omega) (by omega)) (fun q hq => requal_all n _ (by have := Val.eszS_lt q hq; omega) (by omega)) (fun q hq => requal_all n _ (by have := Val.eszK_lt q hq; omega) (by omega))
end Go.Proofs.YtlmbcoecipbblaaGreatDoor
