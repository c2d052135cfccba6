/- value.Size, edit.inner, edit.Size, by the engine: sums wrap. -/
import Derived.Test.YtlmbcoecipbblaaGreatDoorEC8
set_option maxRecDepth 100000
set_option maxHeartbeats 8000000
set_option linter.unusedVariables false
set_option linter.unusedSimpArgs false
namespace Go.Proofs.YtlmbcoecipbblaaGreatDoor
open Go.RowKit
open Val (V E right cmp eright ado Res avalue esm esmF esmS esmK vmx vmxF vmxL vmxP esz eszF eszS eszK e0 swapE swapF PairP inv)
structure GX {α : Type} (enc : List α → List (List DV)) (f : Int → List α → Int) (fl : List (List DV)) (ok : α → Prop) (R : Int) where
 acc : Int
 i : Nat
 rs : List α
 hd : fl.drop i = enc rs
 hr : f acc rs = R
 hok : ∀ x ∈ rs, ok x
def rangeS (n : Nat) (vc : List DV) (ls is_ ns : Nat) (acc : Int) (fl : List (List DV)) (i : Nat) : Go.Proofs.YtlmbcoecipbblaaGreatDoor.St := ⟨[(1, .ptr 0 0), (3, .d fun _ => .lit (.int .i64 acc)), (ls, .d fun _ => .sl fl), (ns, .d fun _ => .lit (.int .i64 fl.length)), (is_, .d fun _ => .lit (.int .i64 i))], [(0, .blk (cellsP n vc))], 1, 0⟩
def restQ (n : Nat) (vc : List DV) (acc : Int) : Go.Proofs.YtlmbcoecipbblaaGreatDoor.St := ⟨[(1, .ptr 0 0), (3, .d fun _ => .lit (.int .i64 acc))], [(0, .blk (cellsP n vc))], 1, 0⟩
def W (a : Int) : Int := IntKind.i64.wrap a
mutual
def szV : V → Int
 | .mk k n t f r l p => if k = 0 then 0 else szP (szL (szF 1 f) l) p
def szF : Int → List (Int × V) → Int
 | a, [] => a
 | a, (_, x) :: r => szF (W (a + szV x)) r
def szL : Int → List V → Int
 | a, [] => a
 | a, x :: r => szL (W (a + szV x)) r
def szP : Int → List (V × V) → Int
 | a, [] => a
 | a, (k, x) :: r => szP (W (a + W (szV k + szV x))) r
end
def SzV (x : V) : Prop := ∀ (G : List (Nat × List DV)) (xc : List DV), xc = encV x → ∀ fr, PRun Tryz.prog G 32 [.agg (cellsP 7 xc)] [] fr (.d fun _ => .lit (.int .i64 (szV x))) []
theorem vsize_run (k : Int) (n : Int) (t : ByteArray) (f : List (Int × V)) (r : ByteArray) (l : List V) (p : List (V × V)) (hf : f.length ≤ 1000000) (hl : l.length ≤ 1000000) (hp : p.length ≤ 1000000)
  (HF : ∀ x ∈ f, SzV x.2) (HL : ∀ x ∈ l, SzV x) (HP : ∀ x ∈ p, SzV x.1 ∧ SzV x.2) : SzV (.mk k n t f r l p) := fun G xc hx fr => by
 obtain ⟨R, hR⟩ : ∃ z, z = szV (.mk k n t f r l p) := ⟨_, rfl⟩
 rw [← hR]
 rw [szV] at hR
 have X := cV (.mk k n t f r l p); rw [← hx] at X
 obtain ⟨x0, x1, x2, x3, x4, x5, x6⟩ := X
 obtain ⟨fl, hfl⟩ : ∃ l, l = encF f := ⟨_, rfl⟩
 obtain ⟨ll, hll⟩ : ∃ z, z = encL l := ⟨_, rfl⟩
 obtain ⟨pl, hpl⟩ : ∃ l, l = encP p := ⟨_, rfl⟩
 have x0 : cellAt xc 0 = .lit (.int .i64 k) := x0
 have x3 : cellAt xc 3 = .sl fl := by rw [hfl]; exact x3
 have x5 : cellAt xc 5 = .sl ll := by rw [hll]; exact x5
 have x6 : cellAt xc 6 = .sl pl := by rw [hpl]; exact x6
 have hf' : fl.length ≤ 1000000 := by rw [hfl, encF_length]; exact hf
 have hl' : ll.length ≤ 1000000 := by rw [hll, encL_length]; exact hl
 have hp' : pl.length ≤ 1000000 := by rw [hpl, encP_length]; exact hp
 refine PRun.pure (xs := [.agg (cellsP 7 xc)]) (r1 := .d fun _ => .lit (.int .i64 R)) tI_ok (by kernel_rfl) Tryz.func32 rfl rfl (by kernel_rfl) ?_
 by_cases k0 : k = 0
 ·rw [if_pos k0] at hR
  repeat with_reducible refine jR (J2 (cellQ x0) (eq_T k0)) ?_
  with_reducible refine jE trivial ?_
  exact LeD.of (by rw [hR])
 rw [if_neg k0] at hR
 repeat with_reducible refine jR (J3 (cellQ x0) k0 (cellQ x3)) ?_
 refine hLoop (loop_okC (ι := GX encF szF fl (fun x => SzV x.2) (szF 1 f)) tI_ok (by kernel_rfl) (fun x => rangeS 7 xc 14 16 15 x.acc fl x.i) (fun x => x.rs.length) ⟨1, 0, f, hfl, rfl, HF⟩ ?_ (fun x => ?_))
 ·with_reducible refine jR trivial ?_ 
  and_intros <;> first | exact LeD.of rfl | exact LeD.of x3
 obtain ⟨acc, i, rs, hd, hr, hok⟩ := x
 show holds _ _ _ (ev tI G _ _ (rangeS 7 xc 14 16 15 acc fl i)) _
 have hi0 := Int.natCast_nonneg i
 rcases rs with _ | ⟨⟨m, y⟩, rs⟩
 rotate_left
 ·obtain ⟨qc, hqc⟩ : ∃ z, z = DV.lit (.int .i64 m) :: encV y := ⟨_, rfl⟩
  rw [encF_cells, ← hqc] at hd
  obtain ⟨g1, g2, g3⟩ := drop_c hd
  have hw := wrap_ix g2 hf'
  have q8 : qc.length = 8 := by rw [hqc, List.length_cons, encV_len]
  have HY := hok _ (List.mem_cons_self ..) G _ (rfl : encV y = _)
  rw [← cells_as (n := 7) (f := fun i => cellAt qc (i + 1)) (c := encV y) (fun i _ => by rw [hqc]; rfl)] at HY
  repeat with_reducible refine jR (J2 (eq_T (Int.ofNat_lt.2 g2)) (eq_T hi0)) ?_
  (with_reducible refine jI qc ?_ ?_); exact g1
  repeat with_reducible refine jR q8 ?_
  (with_reducible apply hCall); exact HY _; with_reducible refine jR trivial ?_
  repeat with_reducible refine jR hw ?_
  obtain ⟨acc2, ha2⟩ : ∃ z, z = W (acc + szV y) := ⟨_, rfl⟩
  obtain ⟨i2, hi2⟩ : ∃ z, z = i + 1 := ⟨_, rfl⟩
  with_reducible refine Exists.intro ⟨acc2, i2, rs, by rw [hi2]; exact g3, by rw [← hr, szF, ha2], fun x hx => hok x (List.mem_cons_of_mem _ hx)⟩ (And.intro (Nat.lt_succ_self _) ?_)
  with_reducible refine jR trivial ?_
  subst ha2 hi2
  and_intros <;> first | exact LeD.of rfl | exact LeD.of (by rw [hw]; rfl)
 have hge := drop_n (hd.trans (by rw [encF]))
 rw [szF] at hr
 repeat with_reducible refine jR hge ?_
 with_reducible refine Exists.intro (restQ 7 xc acc) (And.intro ?_ ?_)
 ·with_reducible refine jR trivial ?_
  trivial
 rw [hr]
 obtain ⟨acc2, ha2⟩ : ∃ z, z = szF 1 f := ⟨_, rfl⟩
 rw [← ha2]
 rw [← ha2] at hR
 repeat with_reducible refine jR (cellQ x5) ?_
 refine hLoop (loop_okC (ι := GX encL szL ll SzV (szL acc2 l)) tI_ok (by kernel_rfl) (fun x => rangeS 7 xc 27 29 28 x.acc ll x.i) (fun x => x.rs.length) ⟨acc2, 0, l, hll, rfl, HL⟩ ?_ (fun x => ?_))
 ·with_reducible refine jR trivial ?_ 
  and_intros <;> first | exact LeD.of rfl | exact LeD.of x5
 obtain ⟨acc, i, rs, hd, hr, hok⟩ := x
 show holds _ _ _ (ev tI G _ _ (rangeS 7 xc 27 29 28 acc ll i)) _
 have hi0 := Int.natCast_nonneg i
 rcases rs with _ | ⟨y, rs⟩
 rotate_left
 ·obtain ⟨qc, hqc⟩ : ∃ z, z = encV y := ⟨_, rfl⟩
  rw [encL, ← hqc] at hd
  obtain ⟨g1, g2, g3⟩ := drop_c hd
  have hw := wrap_ix g2 hl'
  have q8 : qc.length = 7 := by rw [hqc, encV_len]
  have HY := hok _ (List.mem_cons_self ..) G _ hqc
  repeat with_reducible refine jR (J2 (eq_T (Int.ofNat_lt.2 g2)) (eq_T hi0)) ?_
  (with_reducible refine jI qc ?_ ?_); exact g1
  repeat with_reducible refine jR q8 ?_
  (with_reducible apply hCall); exact HY _; with_reducible refine jR trivial ?_
  repeat with_reducible refine jR hw ?_
  obtain ⟨acc2, ha2⟩ : ∃ z, z = W (acc + szV y) := ⟨_, rfl⟩
  obtain ⟨i2, hi2⟩ : ∃ z, z = i + 1 := ⟨_, rfl⟩
  with_reducible refine Exists.intro ⟨acc2, i2, rs, by rw [hi2]; exact g3, by rw [← hr, szL, ha2], fun x hx => hok x (List.mem_cons_of_mem _ hx)⟩ (And.intro (Nat.lt_succ_self _) ?_)
  with_reducible refine jR trivial ?_
  subst ha2 hi2
  and_intros <;> first | exact LeD.of rfl | exact LeD.of (by rw [hw]; rfl)
 have hge := drop_n (hd.trans (by rw [encL]))
 rw [szL] at hr
 repeat with_reducible refine jR hge ?_
 with_reducible refine Exists.intro (restQ 7 xc acc) (And.intro ?_ ?_)
 ·with_reducible refine jR trivial ?_
  trivial
 rw [hr]
 obtain ⟨acc2, ha2⟩ : ∃ z, z = szL acc2 l := ⟨_, rfl⟩
 rw [← ha2]
 rw [← ha2] at hR
 repeat with_reducible refine jR (cellQ x6) ?_
 refine hLoop (loop_okC (ι := GX encP szP pl (fun x => SzV x.1 ∧ SzV x.2) (szP acc2 p)) tI_ok (by kernel_rfl) (fun x => rangeS 7 xc 39 41 40 x.acc pl x.i) (fun x => x.rs.length) ⟨acc2, 0, p, hpl, rfl, HP⟩ ?_ (fun x => ?_))
 ·with_reducible refine jR trivial ?_ 
  and_intros <;> first | exact LeD.of rfl | exact LeD.of x6
 obtain ⟨acc, i, rs, hd, hr, hok⟩ := x
 show holds _ _ _ (ev tI G _ _ (rangeS 7 xc 39 41 40 acc pl i)) _
 have hi0 := Int.natCast_nonneg i
 rcases rs with _ | ⟨⟨m, y⟩, rs⟩
 rotate_left
 ·obtain ⟨qc, hqc⟩ : ∃ z, z = encV m ++ encV y := ⟨_, rfl⟩
  rw [encP, ← hqc] at hd
  obtain ⟨g1, g2, g3⟩ := drop_c hd
  have hw := wrap_ix g2 hp'
  have q8 : qc.length = 14 := by rw [hqc, List.length_append, encV_len, encV_len]
  have HM := (hok _ (List.mem_cons_self ..)).1 G _ (rfl : encV m = _)
  have HY := (hok _ (List.mem_cons_self ..)).2 G _ (rfl : encV y = _)
  rw [← cells_as (n := 7) (f := fun i => cellAt qc i) (c := encV m) (fun i h => by rw [hqc]; exact cell_app1 (by rw [encV_len]; exact h))] at HM
  rw [← cells_as (n := 7) (f := fun i => cellAt qc (i + 7)) (c := encV y) (fun i _ => by rw [hqc]; exact cell_app2 (encV_len m))] at HY
  repeat with_reducible refine jR (J2 (eq_T (Int.ofNat_lt.2 g2)) (eq_T hi0)) ?_
  (with_reducible refine jI qc ?_ ?_); exact g1
  repeat with_reducible refine jR q8 ?_
  (with_reducible apply hCall); exact HM _; with_reducible refine jR trivial ?_
  repeat with_reducible refine jR trivial ?_
  (with_reducible apply hCall); exact HY _; with_reducible refine jR trivial ?_
  repeat with_reducible refine jR hw ?_
  obtain ⟨acc2, ha2⟩ : ∃ z, z = W (acc + W (szV m + szV y)) := ⟨_, rfl⟩
  obtain ⟨i2, hi2⟩ : ∃ z, z = i + 1 := ⟨_, rfl⟩
  with_reducible refine Exists.intro ⟨acc2, i2, rs, by rw [hi2]; exact g3, by rw [← hr, szP, ha2], fun x hx => hok x (List.mem_cons_of_mem _ hx)⟩ (And.intro (Nat.lt_succ_self _) ?_)
  with_reducible refine jR trivial ?_
  subst ha2 hi2
  and_intros <;> first | exact LeD.of rfl | exact LeD.of (by rw [hw]; rfl)
 have hge := drop_n (hd.trans (by rw [encP]))
 rw [szP] at hr
 repeat with_reducible refine jR hge ?_
 with_reducible refine Exists.intro (restQ 7 xc acc) (And.intro ?_ ?_)
 ·with_reducible refine jR trivial ?_
  trivial
 rw [hr]
 obtain ⟨acc2, ha2⟩ : ∃ z, z = szP acc2 p := ⟨_, rfl⟩
 rw [← ha2]
 rw [← ha2] at hR
 repeat with_reducible refine jR trivial ?_ 
 with_reducible refine jE trivial ?_
 exact LeD.of (by rw [hR])
mutual
theorem vsize_all : ∀ x : V, vmx x ≤ 1000000 → SzV x
 | .mk k n t f r l p, h => by
  have hp := Val.vmx_parts (.mk k n t f r l p)
  have h1 : f.length ≤ vmx (.mk k n t f r l p) := hp.1
  have h2 : vmxF f ≤ vmx (.mk k n t f r l p) := hp.2.1
  have h3 : l.length ≤ vmx (.mk k n t f r l p) := hp.2.2.1
  have h4 : vmxL l ≤ vmx (.mk k n t f r l p) := hp.2.2.2.1
  have h5 : p.length ≤ vmx (.mk k n t f r l p) := hp.2.2.2.2.1
  have h6 : vmxP p ≤ vmx (.mk k n t f r l p) := hp.2.2.2.2.2
  exact vsize_run k n t f r l p (by omega) (by omega) (by omega) (vsizeF f (by omega)) (vsizeL l (by omega)) (vsizeP p (by omega))
theorem vsizeF : ∀ f : List (Int × V), vmxF f ≤ 1000000 → ∀ x ∈ f, SzV x.2
 | [], _, x, hx => absurd hx (by simp)
 | (n, y) :: r, h, x, hx => by
  rw [vmxF] at h
  rcases List.mem_cons.1 hx with rfl | hx
  ·exact vsize_all y (by omega)
  ·exact vsizeF r (by omega) x hx
theorem vsizeL : ∀ f : List V, vmxL f ≤ 1000000 → ∀ x ∈ f, SzV x
 | [], _, x, hx => absurd hx (by simp)
 | y :: r, h, x, hx => by
  rw [vmxL] at h
  rcases List.mem_cons.1 hx with hx | hx
  ·rw [hx]; exact vsize_all y (by omega)
  ·exact vsizeL r (by omega) x hx
theorem vsizeP : ∀ f : List (V × V), vmxP f ≤ 1000000 → ∀ x ∈ f, SzV x.1 ∧ SzV x.2
 | [], _, x, hx => absurd hx (by simp)
 | (n, y) :: r, h, x, hx => by
  rw [vmxP] at h
  rcases List.mem_cons.1 hx with rfl | hx
  ·exact ⟨vsize_all n (by omega), vsize_all y (by omega)⟩
  ·exact vsizeP r (by omega) x hx
end
end Go.Proofs.YtlmbcoecipbblaaGreatDoor
