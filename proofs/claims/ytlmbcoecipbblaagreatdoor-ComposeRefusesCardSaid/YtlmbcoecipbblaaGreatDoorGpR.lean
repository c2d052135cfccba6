/- Plain facts: what is too great. redlinelaw13.Great, by the engine. -/
import Derived.Test.YtlmbcoecipbblaaGreatDoorGpE
set_option maxRecDepth 100000
set_option maxHeartbeats 8000000
set_option linter.unusedVariables false
set_option linter.unusedSimpArgs false
namespace Go.Proofs.YtlmbcoecipbblaaGreatDoor.Val
def dec (left : Int) (x : Int) : Int := if 0 ≤ left then x else left
mutual
def gr : V → Int → Int → Int
 | .mk k n t f r l p, left, deep => if deep = 0 ∨ 400 < t.size ∨ 400 < r.size then -1 else grP p (deep - 1) (grL l (deep - 1) (grF f (deep - 1) (left - 1)))
def grF : List (Int × V) → Int → Int → Int
 | [], _, left => left
 | (n, v) :: r, d, left => grF r d (dec left (gr v left d))
def grL : List V → Int → Int → Int
 | [], _, left => left
 | v :: r, d, left => grL r d (dec left (gr v left d))
def grP : List (V × V) → Int → Int → Int
 | [], _, left => left
 | (k, v) :: r, d, left => grP r d (dec (dec left (gr k left d)) (gr v (dec left (gr k left d)) d))
end
theorem dec_le {left x : Int} (h : 0 ≤ left → -1 ≤ x ∧ x ≤ left - 1) (h0 : -1 ≤ left) : -1 ≤ dec left x ∧ dec left x ≤ left := by
 unfold dec
 split
 ·have := h ‹_›; omega
 ·omega
mutual
theorem gr_le : ∀ (v : V) (left deep : Int), 0 ≤ left → -1 ≤ gr v left deep ∧ gr v left deep ≤ left - 1
 | .mk k n t f r l p, left, deep, h => by
  rw [gr]
  split
  ·omega
  ·have h1 := grF_le f (deep - 1) (left - 1) (by omega)
   have h2 := grL_le l (deep - 1) _ h1.1
   have h3 := grP_le p (deep - 1) _ h2.1
   omega
theorem grF_le : ∀ (f : List (Int × V)) (d left : Int), -1 ≤ left → -1 ≤ grF f d left ∧ grF f d left ≤ left
 | [], d, left, h => by rw [grF]; omega
 | (n, v) :: r, d, left, h => by
  rw [grF]
  have h1 := dec_le (fun h => gr_le v left d h) h
  have h2 := grF_le r d _ h1.1
  omega
theorem grL_le : ∀ (f : List V) (d left : Int), -1 ≤ left → -1 ≤ grL f d left ∧ grL f d left ≤ left
 | [], d, left, h => by rw [grL]; omega
 | v :: r, d, left, h => by
  rw [grL]
  have h1 := dec_le (fun h => gr_le v left d h) h
  have h2 := grL_le r d _ h1.1
  omega
theorem grP_le : ∀ (f : List (V × V)) (d left : Int), -1 ≤ left → -1 ≤ grP f d left ∧ grP f d left ≤ left
 | [], d, left, h => by rw [grP]; omega
 | (k, v) :: r, d, left, h => by
  rw [grP]
  have h1 := dec_le (fun h => gr_le k left d h) h
  have h2 := dec_le (fun h => gr_le v _ d h) h1.1
  have h3 := grP_le r d _ h2.1
  omega
end
mutual
theorem gr_vmx : ∀ (v : V) (left deep : Int), 0 ≤ left → 0 ≤ gr v left deep → (vmx v : Int) + 1 ≤ left - gr v left deep
 | .mk k n t f r l p, left, deep, h, h0 => by
  rw [gr] at h0 ⊢
  split at h0
  ·omega
  rename_i hc
  rw [if_neg hc]
  have h1 := grF_le f (deep - 1) (left - 1) (by omega)
  have h2 := grL_le l (deep - 1) _ h1.1
  have h3 := grP_le p (deep - 1) _ h2.1
  have g1 := grF_vmx f (deep - 1) (left - 1) (by omega) (by omega)
  have g2 := grL_vmx l (deep - 1) _ h1.1 (by omega)
  have g3 := grP_vmx p (deep - 1) _ h2.1 h0
  rw [vmx]
  omega
theorem grF_vmx : ∀ (f : List (Int × V)) (d left : Int), -1 ≤ left → 0 ≤ grF f d left → (f.length : Int) ≤ left - grF f d left ∧ (vmxF f : Int) ≤ left - grF f d left
 | [], d, left, h, h0 => by rw [grF] at h0 ⊢; rw [vmxF]; simp
 | (n, v) :: r, d, left, h, h0 => by
  rw [grF] at h0 ⊢
  have h1 := dec_le (fun h => gr_le v left d h) h
  have h2 := grF_le r d _ h1.1
  have h3 := grF_vmx r d _ h1.1 h0
  have hl : 0 ≤ left := by omega
  have e : dec left (gr v left d) = gr v left d := if_pos hl
  rw [e] at h0 h1 h2 h3 ⊢
  have h4 := gr_vmx v left d hl (by omega)
  rw [vmxF]
  simp only [List.length_cons]
  omega
theorem grL_vmx : ∀ (f : List V) (d left : Int), -1 ≤ left → 0 ≤ grL f d left → (f.length : Int) ≤ left - grL f d left ∧ (vmxL f : Int) ≤ left - grL f d left
 | [], d, left, h, h0 => by rw [grL] at h0 ⊢; rw [vmxL]; simp
 | v :: r, d, left, h, h0 => by
  rw [grL] at h0 ⊢
  have h1 := dec_le (fun h => gr_le v left d h) h
  have h2 := grL_le r d _ h1.1
  have h3 := grL_vmx r d _ h1.1 h0
  have hl : 0 ≤ left := by omega
  have e : dec left (gr v left d) = gr v left d := if_pos hl
  rw [e] at h0 h1 h2 h3 ⊢
  have h4 := gr_vmx v left d hl (by omega)
  rw [vmxL]
  simp only [List.length_cons]
  omega
theorem grP_vmx : ∀ (f : List (V × V)) (d left : Int), -1 ≤ left → 0 ≤ grP f d left → (f.length : Int) ≤ left - grP f d left ∧ (vmxP f : Int) ≤ left - grP f d left
 | [], d, left, h, h0 => by rw [grP] at h0 ⊢; rw [vmxP]; simp
 | (k, v) :: r, d, left, h, h0 => by
  rw [grP] at h0 ⊢
  have h1 := dec_le (fun h => gr_le k left d h) h
  have h2 := dec_le (fun h => gr_le v _ d h) h1.1
  have h3 := grP_le r d _ h2.1
  have h4 := grP_vmx r d _ h2.1 h0
  have hl : 0 ≤ left := by omega
  have e : dec left (gr k left d) = gr k left d := if_pos hl
  rw [e] at h0 h1 h2 h3 h4 ⊢
  have hl2 : 0 ≤ gr k left d := by omega
  have e2 : dec (gr k left d) (gr v (gr k left d) d) = gr v (gr k left d) d := if_pos hl2
  rw [e2] at h0 h2 h3 h4 ⊢
  have h5 := gr_vmx k left d hl (by omega)
  have h6 := gr_vmx v _ d hl2 (by omega)
  rw [vmxP]
  simp only [List.length_cons]
  omega
end
mutual
def ge : E → Int → Int → Int
 | .mk k o n f r ro rn s ks, left, deep => if deep = 0 ∨ 300 < ro.size ∨ 300 < rn.size ∨ gr o 60 30 < 0 ∨ gr n 60 30 < 0 then -1 else match geS s (deep - 1) (geF f (deep - 1) (left - 1)) with
  | none => -1
  | some l => geK ks (deep - 1) l
def geF : List (Int × E) → Int → Int → Int
 | [], _, left => left
 | (n, e) :: r, d, left => geF r d (dec left (ge e left d))
def geS : List (Int × Int × V × E) → Int → Int → Option Int
 | [], d, left => some left
 | (k, c, v, e) :: r, d, left => if 0 ≤ left ∧ (gr v 60 30 < 0 ∨ 2097152 < c) then none else geS r d (dec left (ge e left d))
def geK : List (V × E) → Int → Int → Int
 | [], _, left => left
 | (k, e) :: r, d, left => if 0 ≤ left ∧ gr k 20 30 < 0 then -1 else geK r d (dec left (ge e left d))
end
mutual
theorem ge_le : ∀ (v : E) (left deep : Int), 0 ≤ left → -1 ≤ ge v left deep ∧ ge v left deep ≤ left - 1
 | .mk k o n f r ro rn s ks, left, deep, h => by
  rw [ge]
  split
  ·omega
  ·have h1 := geF_le f (deep - 1) (left - 1) (by omega)
   have h2 := geS_le s (deep - 1) _ h1.1
   cases hS : geS s (deep - 1) (geF f (deep - 1) (left - 1)) with
   | none => simp only; omega
   | some l =>
    have h3 := h2 l hS
    have h4 := geK_le ks (deep - 1) l h3.1
    simp only; omega
theorem geF_le : ∀ (f : List (Int × E)) (d left : Int), -1 ≤ left → -1 ≤ geF f d left ∧ geF f d left ≤ left
 | [], d, left, h => by rw [geF]; omega
 | (n, v) :: r, d, left, h => by
  rw [geF]
  have h1 := dec_le (fun h => ge_le v left d h) h
  have h2 := geF_le r d _ h1.1
  omega
theorem geS_le : ∀ (f : List (Int × Int × V × E)) (d left : Int), -1 ≤ left → ∀ l, geS f d left = some l → -1 ≤ l ∧ l ≤ left
 | [], d, left, h => by rw [geS]; intro l hl; cases hl; omega
 | (k, c, v, e) :: r, d, left, h => by
  rw [geS]
  split
  ·intro l hl; cases hl
  have h1 := dec_le (fun h => ge_le e left d h) h
  intro l hl
  have h2 := geS_le r d _ h1.1 l hl
  omega
theorem geK_le : ∀ (f : List (V × E)) (d left : Int), -1 ≤ left → -1 ≤ geK f d left ∧ geK f d left ≤ left
 | [], d, left, h => by rw [geK]; omega
 | (k, v) :: r, d, left, h => by
  rw [geK]
  split
  ·omega
  have h1 := dec_le (fun h => ge_le v left d h) h
  have h3 := geK_le r d _ h1.1
  omega
end
mutual
theorem ge_esz : ∀ (v : E) (left deep : Int), 0 ≤ left → 0 ≤ ge v left deep → (esz v : Int) + 62 ≤ 200 * (left - ge v left deep) ∧ esm v
 | .mk k o n f r ro rn s ks, left, deep, h, h0 => by
  rw [ge] at h0 ⊢
  split at h0
  ·omega
  rename_i hc
  rw [if_neg hc]
  simp only [not_or] at hc
  have h1 := geF_le f (deep - 1) (left - 1) (by omega)
  cases hS : geS s (deep - 1) (geF f (deep - 1) (left - 1)) with
  | none => rw [hS] at h0; simp only at h0; omega
  | some l =>
  rw [hS] at h0
  simp only at h0 ⊢
  have h2 := geS_le s (deep - 1) _ h1.1 l hS
  have h3 := geK_le ks (deep - 1) l h2.1
  have g1 := geF_esz f (deep - 1) (left - 1) (by omega) (by omega)
  have g2 := geS_esz s (deep - 1) _ h1.1 l hS (by omega)
  have g3 := geK_esz ks (deep - 1) l h2.1 h0
  have o1 := gr_vmx o 60 30 (by omega) (by omega)
  have n1 := gr_vmx n 60 30 (by omega) (by omega)
  rw [esz, esm]
  exact ⟨by omega, ⟨by omega, by omega⟩, g1.2, g2.2, g3.2⟩
theorem geF_esz : ∀ (f : List (Int × E)) (d left : Int), -1 ≤ left → 0 ≤ geF f d left → (eszF f : Int) ≤ 200 * (left - geF f d left) ∧ esmF f
 | [], d, left, h, h0 => by rw [geF] at h0 ⊢; rw [eszF, esmF]; simp
 | (n, v) :: r, d, left, h, h0 => by
  rw [geF] at h0 ⊢
  have h1 := dec_le (fun h => ge_le v left d h) h
  have h2 := geF_le r d _ h1.1
  have h3 := geF_esz r d _ h1.1 h0
  have hl : 0 ≤ left := by omega
  have e : dec left (ge v left d) = ge v left d := if_pos hl
  rw [e] at h0 h1 h2 h3 ⊢
  have h4 := ge_esz v left d hl (by omega)
  rw [eszF, esmF]
  exact ⟨by omega, h4.2, h3.2⟩
theorem geS_esz : ∀ (f : List (Int × Int × V × E)) (d left : Int), -1 ≤ left → ∀ l, geS f d left = some l → 0 ≤ l → (eszS f : Int) ≤ 200 * (left - l) ∧ esmS f
 | [], d, left, h, l, hl, h0 => by
  rw [geS] at hl
  cases hl
  rw [eszS, esmS]
  exact ⟨by omega, trivial⟩
 | (k, c, v, e) :: r, d, left, h, l, hl', h0 => by
  rw [geS] at hl'
  split at hl'
  ·cases hl'
  rename_i hc
  have h1 := dec_le (fun h => ge_le e left d h) h
  have h2 := geS_le r d _ h1.1 l hl'
  have h3 := geS_esz r d _ h1.1 l hl' h0
  have hl : 0 ≤ left := by omega
  have e1 : dec left (ge e left d) = ge e left d := if_pos hl
  rw [e1] at h1 h2 h3
  have h4 := ge_esz e left d hl (by omega)
  have hv : ¬ gr v 60 30 < 0 := fun hh => hc ⟨hl, .inl hh⟩
  have v1 := gr_vmx v 60 30 (by omega) (by omega)
  rw [eszS, esmS]
  exact ⟨by omega, h4.2, h3.2⟩
theorem geK_esz : ∀ (f : List (V × E)) (d left : Int), -1 ≤ left → 0 ≤ geK f d left → (eszK f : Int) ≤ 200 * (left - geK f d left) ∧ esmK f
 | [], d, left, h, h0 => by rw [geK] at h0 ⊢; rw [eszK, esmK]; simp
 | (k, v) :: r, d, left, h, h0 => by
  rw [geK] at h0 ⊢
  split at h0
  ·omega
  rename_i hc
  rw [if_neg hc]
  have h1 := dec_le (fun h => ge_le v left d h) h
  have h2 := geK_le r d _ h1.1
  have h3 := geK_esz r d _ h1.1 h0
  have hl : 0 ≤ left := by omega
  have e : dec left (ge v left d) = ge v left d := if_pos hl
  rw [e] at h0 h1 h2 h3 ⊢
  have h4 := ge_esz v left d hl (by omega)
  have hv : ¬ gr k 20 30 < 0 := fun hh => hc ⟨hl, hh⟩
  have v1 := gr_vmx k 20 30 (by omega) (by omega)
  rw [eszK, esmK]
  exact ⟨by omega, h4.2, h3.2⟩
end
end Go.Proofs.YtlmbcoecipbblaaGreatDoor.Val
namespace Go.Proofs.YtlmbcoecipbblaaGreatDoor
open Go.RowKit
open Val (V E gr grF grL grP ge geF geS geK)
structure AX {α : Type} (enc : List α → List (List DV)) (f : Int → List α → Int) (fl : List (List DV)) (ok : α → Prop) (R : Int) where
 acc : Int
 i : Nat
 rs : List α
 hd : fl.drop i = enc rs
 hr : f acc rs = R
 hok : ∀ x ∈ rs, ok x
 ob : -1 ≤ acc ∧ acc ≤ 100000
def grS (n : Nat) (vc : List DV) (deep : Int) (ls is_ ns : Nat) (acc : Int) (fl : List (List DV)) (i : Nat) : Go.Proofs.YtlmbcoecipbblaaGreatDoor.St := ⟨[(1, .d fun _ => .lit (.int .i64 acc)), (2, .d fun _ => .lit (.int .i64 deep)), (3, .ptr 0 0), (ls, .d fun _ => .sl fl), (ns, .d fun _ => .lit (.int .i64 fl.length)), (is_, .d fun _ => .lit (.int .i64 i))], [(0, .blk (cellsP n vc))], 1, 0⟩
def grQ (n : Nat) (vc : List DV) (deep acc : Int) : Go.Proofs.YtlmbcoecipbblaaGreatDoor.St := ⟨[(1, .d fun _ => .lit (.int .i64 acc)), (2, .d fun _ => .lit (.int .i64 deep)), (3, .ptr 0 0)], [(0, .blk (cellsP n vc))], 1, 0⟩
def grX : Go.Proofs.YtlmbcoecipbblaaGreatDoor.St := ⟨[(6, .d fun _ => .lit (.int .i64 (-1)))], [], 0, 0⟩
def GrV (x : V) : Prop := ∀ (G : List (Nat × List DV)) (xc : List DV), xc = encV x → ∀ (left deep : Int), 0 ≤ left → left ≤ 100000 → 0 ≤ deep → deep ≤ 100000 → ∀ fr, PRun Tryz.prog G 61 [.agg (cellsP 7 xc), .d fun _ => .lit (.int .i64 left), .d fun _ => .lit (.int .i64 deep)] [] fr (.d fun _ => .lit (.int .i64 (gr x left deep))) []
theorem gr_run (x : V) (HF : ∀ y ∈ x.fields, GrV y.2) (HL : ∀ y ∈ x.list, GrV y) (HP : ∀ y ∈ x.pairs, GrV y.1 ∧ GrV y.2) : GrV x := fun G vc hx left deep l0 l1 d0 d1 fr => by
 obtain ⟨fl, hfl⟩ : ∃ l, l = encF x.fields := ⟨_, rfl⟩
 obtain ⟨ll, hll⟩ : ∃ z, z = encL x.list := ⟨_, rfl⟩
 obtain ⟨pl, hpl⟩ : ∃ l, l = encP x.pairs := ⟨_, rfl⟩
 have X := cV x; rw [← hx] at X
 obtain ⟨x0, x1, x2, x3, x4, x5, x6⟩ := X
 rw [← hfl] at x3
 rw [← hll] at x5
 rw [← hpl] at x6
 obtain ⟨R, hR⟩ : ∃ z, z = gr x left deep := ⟨_, rfl⟩
 rw [← hR]
 have hR : R = if deep = 0 ∨ 400 < x.text.size ∨ 400 < x.rest.size then -1 else grP x.pairs (deep - 1) (grL x.list (deep - 1) (grF x.fields (deep - 1) (left - 1))) := by rw [hR]; cases x; rw [gr]; rfl
 refine PRun.pure (xs := [.agg (cellsP 7 vc), .d fun _ => .lit (.int .i64 left), .d fun _ => .lit (.int .i64 deep)]) (r1 := .d fun _ => .lit (.int .i64 R)) tI_ok (by kernel_rfl) Tryz.func61 rfl rfl (by kernel_rfl) ?_
 by_cases c0 : deep = 0
 ·rw [if_pos (.inl c0)] at hR
  repeat with_reducible refine jR (eq_T c0) ?_
  with_reducible refine jE trivial ?_
  exact LeD.of (by rw [hR])
 by_cases c1 : (400 : Int) < (x.text.size : Int)
 ·rw [if_pos (.inr (.inl (by omega)))] at hR
  repeat with_reducible refine jR (J3 c0 (cellQ x2) (eq_T c1)) ?_
  with_reducible refine jE trivial ?_
  exact LeD.of (by rw [hR])
 by_cases c2 : (400 : Int) < (x.rest.size : Int)
 ·rw [if_pos (.inr (.inr (by omega)))] at hR
  repeat with_reducible refine jR (J5 c0 (cellQ x2) c1 (cellQ x4) (eq_T c2)) ?_
  with_reducible refine jE trivial ?_
  exact LeD.of (by rw [hR])
 rw [if_neg (by omega)] at hR
 obtain ⟨R1, hR1⟩ : ∃ z, z = grF x.fields (deep - 1) (left - 1) := ⟨_, rfl⟩
 rw [← hR1] at hR
 have hlw : IntKind.i64.wrap (left - 1) = left - 1 := wrap_in (by omega) (by omega)
 have hdw : IntKind.i64.wrap (deep - 1) = deep - 1 := wrap_in (by omega) (by omega)
 have dd0 : 0 ≤ deep - 1 := by omega
 have dd1 : deep - 1 ≤ 100000 := by omega
 obtain ⟨a0, ha0⟩ : ∃ z, z = left - 1 := ⟨_, rfl⟩
 rw [← ha0] at hR1 hlw
 repeat with_reducible refine jR (J6 c0 (cellQ x2) c1 (cellQ x4) c2 (cellQ x3)) ?_
 refine hLoop (loop_okK (ι := AX encF (fun a l => grF l (deep - 1) a) fl (fun y : Int × V => GrV y.2) R1) tI_ok (by kernel_rfl) (fun x => grS 7 vc deep 30 32 31 x.acc fl x.i) (fun x => x.rs.length) ⟨a0, 0, x.fields, hfl, hR1.symm, HF, ⟨by omega, by omega⟩⟩ ?_ (fun x kn => ?_))
 ·with_reducible refine jR trivial ?_
  and_intros <;> first | exact LeD.of rfl | exact LeD.of x3 | exact LeD.of (by rw [← hlw, ha0])
 obtain ⟨acc, i, rs, hd, hr, hok, ob⟩ := x
 show holds _ _ _ (ev tI G _ _ (grS 7 vc deep 30 32 31 acc fl i)) _
 have hmx := kn.1 30 _ fl rfl rfl
 clear kn
 have hi0 := Int.natCast_nonneg i
 rcases rs with _ | ⟨⟨m, y⟩, rs⟩
 rotate_left
 ·obtain ⟨qc, hqc⟩ : ∃ z, z = DV.lit (.int .i64 m) :: encV y := ⟨_, rfl⟩
  rw [encF_cells, ← hqc] at hd
  obtain ⟨g1, g2, g3⟩ := drop_c hd
  have hw := wrap_mx g2 hmx
  have q8 : qc.length = 8 := by rw [hqc, List.length_cons, encV_len]
  obtain ⟨oc, hoc⟩ : ∃ z, z = encV y := ⟨_, rfl⟩
  have HY := fun (a : Int) (h0 : 0 ≤ a) (h1 : a ≤ 100000) fr => hok _ (List.mem_cons_self ..) G oc hoc a (deep - 1) h0 h1 dd0 dd1 fr
  have HY := fun a h0 h1 fr => (HY a h0 h1 fr).args (args' := [.agg ((List.range 7).map fun i => (.d fun _ => cellAt qc (i + 1) : PV)), .d fun _ => .lit (.int .i64 a), .d fun _ => .lit (.int .i64 (deep - 1))]) (fun N h vs hp => by rw [cells_as (n := 7) (f := fun i => cellAt qc (i + 1)) (c := oc) (fun i _ => by rw [hqc, hoc]; rfl)] at hp; exact hp)
  obtain ⟨i2, hi2⟩ : ∃ z, z = i + 1 := ⟨_, rfl⟩
  by_cases h0 : 0 ≤ acc
  ·have le := Val.gr_le y acc (deep - 1) h0
   repeat with_reducible refine jR (J3 (eq_T (Int.ofNat_lt.2 g2)) (eq_T hi0) (eq_T h0)) ?_
   (with_reducible refine jI qc ?_ ?_); exact g1
   repeat with_reducible refine jR (J3 q8 (eq_T h0) hdw) ?_
   (with_reducible apply hCall); exact HY acc h0 ob.2 _; with_reducible refine jR hw ?_
   repeat with_reducible refine jR hw ?_
   obtain ⟨acc2, ha2⟩ : ∃ z, z = gr y acc (deep - 1) := ⟨_, rfl⟩
   with_reducible refine Exists.intro ⟨acc2, i2, rs, by rw [hi2]; exact g3, by rw [← hr, grF, Val.dec, if_pos h0, ha2], fun x hx => hok x (List.mem_cons_of_mem _ hx), by rw [ha2]; omega⟩ (And.intro (Nat.lt_succ_self _) ?_)
   with_reducible refine jR trivial ?_
   subst hi2
   and_intros <;> first | exact LeD.of rfl | exact LeD.of (by rw [hw]; rfl) | exact LeD.of (by rw [ha2])
  repeat with_reducible refine jR (J3 (eq_T (Int.ofNat_lt.2 g2)) (eq_T hi0) h0) ?_
  (with_reducible refine jI qc ?_ ?_); exact g1
  repeat with_reducible refine jR (J3 q8 h0 hw) ?_
  with_reducible refine Exists.intro ⟨acc, i2, rs, by rw [hi2]; exact g3, by rw [← hr, grF, Val.dec, if_neg h0], fun x hx => hok x (List.mem_cons_of_mem _ hx), ob⟩ (And.intro (Nat.lt_succ_self _) ?_)
  with_reducible refine jR trivial ?_
  subst hi2
  and_intros <;> first | exact LeD.of rfl | exact LeD.of (by rw [hw]; rfl) | exact LeD.of (by rw [ha2])
 have hge := drop_n (hd.trans (by rw [encF]))
 repeat with_reducible refine jR hge ?_
 with_reducible refine Exists.intro (grQ 7 vc deep acc) (And.intro ?_ ?_)
 ·with_reducible refine jR trivial ?_
  trivial
 rw [show grF [] (deep - 1) acc = acc from by rw [grF]] at hr
 subst hr
 obtain ⟨R2, hR2⟩ : ∃ z, z = grL x.list (deep - 1) acc := ⟨_, rfl⟩
 rw [← hR2] at hR
 repeat with_reducible refine jR (cellQ x5) ?_
 refine hLoop (loop_okK (ι := AX encL (fun a l => grL l (deep - 1) a) ll GrV R2) tI_ok (by kernel_rfl) (fun x => grS 7 vc deep 46 48 47 x.acc ll x.i) (fun x => x.rs.length) ⟨acc, 0, x.list, hll, hR2.symm, HL, ob⟩ ?_ (fun x kn => ?_))
 ·with_reducible refine jR trivial ?_
  and_intros <;> first | exact LeD.of rfl | exact LeD.of x5
 obtain ⟨acc, i, rs, hd, hr, hok, ob⟩ := x
 show holds _ _ _ (ev tI G _ _ (grS 7 vc deep 46 48 47 acc ll i)) _
 have hmx := kn.1 46 _ ll rfl rfl
 clear kn
 have hi0 := Int.natCast_nonneg i
 rcases rs with _ | ⟨y, rs⟩
 rotate_left
 ·obtain ⟨qc, hqc⟩ : ∃ z, z = encV y := ⟨_, rfl⟩
  rw [encL, ← hqc] at hd
  obtain ⟨g1, g2, g3⟩ := drop_c hd
  have hw := wrap_mx g2 hmx
  have q8 : qc.length = 7 := by rw [hqc, encV_len]
  have HY := fun (a : Int) (h0 : 0 ≤ a) (h1 : a ≤ 100000) fr => hok _ (List.mem_cons_self ..) G qc hqc a (deep - 1) h0 h1 dd0 dd1 fr
  obtain ⟨i2, hi2⟩ : ∃ z, z = i + 1 := ⟨_, rfl⟩
  by_cases h0 : 0 ≤ acc
  ·have le := Val.gr_le y acc (deep - 1) h0
   repeat with_reducible refine jR (J3 (eq_T (Int.ofNat_lt.2 g2)) (eq_T hi0) (eq_T h0)) ?_
   (with_reducible refine jI qc ?_ ?_); exact g1
   repeat with_reducible refine jR (J3 q8 (eq_T h0) hdw) ?_
   (with_reducible apply hCall); exact HY acc h0 ob.2 _; with_reducible refine jR hw ?_
   repeat with_reducible refine jR hw ?_
   obtain ⟨acc2, ha2⟩ : ∃ z, z = gr y acc (deep - 1) := ⟨_, rfl⟩
   with_reducible refine Exists.intro ⟨acc2, i2, rs, by rw [hi2]; exact g3, by rw [← hr, grL, Val.dec, if_pos h0, ha2], fun x hx => hok x (List.mem_cons_of_mem _ hx), by rw [ha2]; omega⟩ (And.intro (Nat.lt_succ_self _) ?_)
   with_reducible refine jR trivial ?_
   subst hi2
   and_intros <;> first | exact LeD.of rfl | exact LeD.of (by rw [hw]; rfl) | exact LeD.of (by rw [ha2])
  repeat with_reducible refine jR (J3 (eq_T (Int.ofNat_lt.2 g2)) (eq_T hi0) h0) ?_
  (with_reducible refine jI qc ?_ ?_); exact g1
  repeat with_reducible refine jR (J3 q8 h0 hw) ?_
  with_reducible refine Exists.intro ⟨acc, i2, rs, by rw [hi2]; exact g3, by rw [← hr, grL, Val.dec, if_neg h0], fun x hx => hok x (List.mem_cons_of_mem _ hx), ob⟩ (And.intro (Nat.lt_succ_self _) ?_)
  with_reducible refine jR trivial ?_
  subst hi2
  and_intros <;> first | exact LeD.of rfl | exact LeD.of (by rw [hw]; rfl) | exact LeD.of (by rw [ha2])
 have hge := drop_n (hd.trans (by rw [encL]))
 repeat with_reducible refine jR hge ?_
 with_reducible refine Exists.intro (grQ 7 vc deep acc) (And.intro ?_ ?_)
 ·with_reducible refine jR trivial ?_
  trivial
 rw [show grL [] (deep - 1) acc = acc from by rw [grL]] at hr
 subst hr
 obtain ⟨R3, hR3⟩ : ∃ z, z = grP x.pairs (deep - 1) acc := ⟨_, rfl⟩
 rw [← hR3] at hR
 repeat with_reducible refine jR (cellQ x6) ?_
 refine hLoop (loop_okK (ι := AX encP (fun a l => grP l (deep - 1) a) pl (fun y : V × V => GrV y.1 ∧ GrV y.2) R3) tI_ok (by kernel_rfl) (fun x => grS 7 vc deep 61 63 62 x.acc pl x.i) (fun x => x.rs.length) ⟨acc, 0, x.pairs, hpl, hR3.symm, HP, ob⟩ ?_ (fun x kn => ?_))
 ·with_reducible refine jR trivial ?_
  and_intros <;> first | exact LeD.of rfl | exact LeD.of x6
 obtain ⟨acc, i, rs, hd, hr, hok, ob⟩ := x
 show holds _ _ _ (ev tI G _ _ (grS 7 vc deep 61 63 62 acc pl i)) _
 have hmx := kn.1 61 _ pl rfl rfl
 clear kn
 have hi0 := Int.natCast_nonneg i
 rcases rs with _ | ⟨⟨m, y⟩, rs⟩
 rotate_left
 ·obtain ⟨qc, hqc⟩ : ∃ z, z = encV m ++ encV y := ⟨_, rfl⟩
  rw [encP, ← hqc] at hd
  obtain ⟨g1, g2, g3⟩ := drop_c hd
  have hw := wrap_mx g2 hmx
  have q8 : qc.length = 14 := by rw [hqc, List.length_append, encV_len, encV_len]
  obtain ⟨mc, hmc⟩ : ∃ z, z = encV m := ⟨_, rfl⟩
  obtain ⟨oc, hoc⟩ : ∃ z, z = encV y := ⟨_, rfl⟩
  have HY := fun (a : Int) (h0 : 0 ≤ a) (h1 : a ≤ 100000) fr => (hok _ (List.mem_cons_self ..)).2 G oc hoc a (deep - 1) h0 h1 dd0 dd1 fr
  have HY := fun a h0 h1 fr => (HY a h0 h1 fr).args (args' := [.agg ((List.range 7).map fun i => (.d fun _ => cellAt qc (i + 7) : PV)), .d fun _ => .lit (.int .i64 a), .d fun _ => .lit (.int .i64 (deep - 1))]) (fun N h vs hp => by rw [cells_as (n := 7) (f := fun i => cellAt qc (i + 7)) (c := oc) (fun i _ => by rw [hqc, hoc]; exact cell_app2 (encV_len m))] at hp; exact hp)
  have HM := fun (h0 : 0 ≤ acc) fr => (hok _ (List.mem_cons_self ..)).1 G mc hmc acc (deep - 1) h0 ob.2 dd0 dd1 fr
  have HM := fun h0 fr => (HM h0 fr).args (args' := [.agg ((List.range 7).map fun i => (.d fun _ => cellAt qc i : PV)), .d fun _ => .lit (.int .i64 acc), .d fun _ => .lit (.int .i64 (deep - 1))]) (fun N h vs hp => by rw [cells_as (n := 7) (f := fun i => cellAt qc i) (c := mc) (fun i h => by rw [hqc, hmc]; exact cell_app1 (by rw [encV_len]; exact h))] at hp; exact hp)
  obtain ⟨i2, hi2⟩ : ∃ z, z = i + 1 := ⟨_, rfl⟩
  by_cases h0 : 0 ≤ acc
  ·have le := Val.gr_le m acc (deep - 1) h0; replace HM := HM h0
   obtain ⟨a2, ha1⟩ : ∃ z, z = gr m acc (deep - 1) := ⟨_, rfl⟩
   rw [← ha1] at le HM
   by_cases h2 : 0 ≤ a2
   ·have le2 := Val.gr_le y a2 (deep - 1) h2
    repeat with_reducible refine jR (J3 (eq_T (Int.ofNat_lt.2 g2)) (eq_T hi0) (eq_T h0)) ?_
    (with_reducible refine jI qc ?_ ?_); exact g1
    repeat with_reducible refine jR (J3 q8 (eq_T h0) hdw) ?_
    (with_reducible apply hCall); exact HM _; with_reducible refine jR (J2 (eq_T h2) hdw) ?_
    repeat with_reducible refine jR (J2 (eq_T h2) hdw) ?_
    (with_reducible apply hCall); exact HY a2 h2 (by omega) _; with_reducible refine jR hw ?_
    repeat with_reducible refine jR hw ?_
    obtain ⟨acc2, ha2⟩ : ∃ z, z = gr y a2 (deep - 1) := ⟨_, rfl⟩
    with_reducible refine Exists.intro ⟨acc2, i2, rs, by rw [hi2]; exact g3, by rw [← hr, grP, show Val.dec acc (gr m acc (deep - 1)) = a2 from by rw [Val.dec, if_pos h0, ha1], Val.dec, if_pos h2, ha2], fun x hx => hok x (List.mem_cons_of_mem _ hx), by rw [ha2]; omega⟩ (And.intro (Nat.lt_succ_self _) ?_)
    with_reducible refine jR trivial ?_
    subst hi2
    and_intros <;> first | exact LeD.of rfl | exact LeD.of (by rw [hw]; rfl) | exact LeD.of (by rw [ha2])
   repeat with_reducible refine jR (J3 (eq_T (Int.ofNat_lt.2 g2)) (eq_T hi0) (eq_T h0)) ?_
   (with_reducible refine jI qc ?_ ?_); exact g1
   repeat with_reducible refine jR (J3 q8 (eq_T h0) hdw) ?_
   (with_reducible apply hCall); exact HM _; with_reducible refine jR (J2 h2 hw) ?_
   repeat with_reducible refine jR (J2 h2 hw) ?_
   with_reducible refine Exists.intro ⟨a2, i2, rs, by rw [hi2]; exact g3, by rw [← hr, grP, show Val.dec acc (gr m acc (deep - 1)) = a2 from by rw [Val.dec, if_pos h0, ha1], Val.dec, if_neg h2], fun x hx => hok x (List.mem_cons_of_mem _ hx), by omega⟩ (And.intro (Nat.lt_succ_self _) ?_)
   with_reducible refine jR trivial ?_
   subst hi2
   and_intros <;> first | exact LeD.of rfl | exact LeD.of (by rw [hw]; rfl) | exact LeD.of (by rw [ha2])
  repeat with_reducible refine jR (J3 (eq_T (Int.ofNat_lt.2 g2)) (eq_T hi0) h0) ?_
  (with_reducible refine jI qc ?_ ?_); exact g1
  repeat with_reducible refine jR (J3 q8 h0 hw) ?_
  with_reducible refine Exists.intro ⟨acc, i2, rs, by rw [hi2]; exact g3, by rw [← hr, grP, show Val.dec acc (gr m acc (deep - 1)) = acc from by rw [Val.dec, if_neg h0], Val.dec, if_neg h0], fun x hx => hok x (List.mem_cons_of_mem _ hx), ob⟩ (And.intro (Nat.lt_succ_self _) ?_)
  with_reducible refine jR trivial ?_
  subst hi2
  and_intros <;> first | exact LeD.of rfl | exact LeD.of (by rw [hw]; rfl) | exact LeD.of (by rw [ha2])
 have hge := drop_n (hd.trans (by rw [encP]))
 repeat with_reducible refine jR hge ?_
 with_reducible refine Exists.intro (grQ 7 vc deep acc) (And.intro ?_ ?_)
 ·with_reducible refine jR trivial ?_
  trivial
 rw [show grP [] (deep - 1) acc = acc from by rw [grP]] at hr
 subst hr
 repeat with_reducible refine jR trivial ?_ 
 with_reducible refine jE trivial ?_
 exact LeD.of (by rw [hR]; first | done | rfl)
mutual
theorem gr_all : ∀ x : V, GrV x
 | .mk k n t f r l p => gr_run (.mk k n t f r l p) (grF_all f) (grL_all l) (grP_all p)
theorem grF_all : ∀ f : List (Int × V), ∀ x ∈ f, GrV x.2
 | [], x, hx => absurd hx (by simp)
 | (n, y) :: r, x, hx => by
  rcases List.mem_cons.1 hx with hx | hx
  ·rw [hx]; exact gr_all y
  ·exact grF_all r x hx
theorem grL_all : ∀ f : List V, ∀ x ∈ f, GrV x
 | [], x, hx => absurd hx (by simp)
 | y :: r, x, hx => by
  rcases List.mem_cons.1 hx with hx | hx
  ·rw [hx]; exact gr_all y
  ·exact grL_all r x hx
theorem grP_all : ∀ f : List (V × V), ∀ x ∈ f, GrV x.1 ∧ GrV x.2
 | [], x, hx => absurd hx (by simp)
 | (n, y) :: r, x, hx => by
  rcases List.mem_cons.1 hx with hx | hx
  ·rw [hx]; exact ⟨gr_all n, gr_all y⟩
  ·exact grP_all r x hx
end
theorem great13_run {G : List (Nat × List DV)} {x : V} {xc : List DV} (hx : xc = encV x) (m : Int) (h0 : 0 ≤ m) (h1 : m ≤ 100000) (fr : List Nat) : PRun Tryz.prog G 35 [.agg (cellsP 7 xc), .d fun _ => .lit (.int .i64 m)] [] fr (.d fun _ => .lit (.bool (decide (gr x m 30 < 0)))) [] := by
 have H := gr_all x G xc hx m 30 h0 h1 (by decide) (by decide)
 obtain ⟨z, hz⟩ : ∃ z, z = gr x m 30 := ⟨_, rfl⟩
 rw [← hz] at H ⊢
 refine PRun.pure (xs := [.agg (cellsP 7 xc), .d fun _ => .lit (.int .i64 m)]) (r1 := .d fun _ => .lit (.bool (decide (z < 0)))) tI_ok (by kernel_rfl) Tryz.func35 rfl rfl (by kernel_rfl) ?_
 repeat with_reducible refine jR trivial ?_
 (with_reducible apply hCall); exact H _; with_reducible refine jR trivial ?_
 with_reducible refine jE trivial ?_
 trivial
end Go.Proofs.YtlmbcoecipbblaaGreatDoor
