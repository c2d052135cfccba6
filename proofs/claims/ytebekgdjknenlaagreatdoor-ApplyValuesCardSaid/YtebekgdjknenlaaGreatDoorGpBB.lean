/- Plain facts: what is too great. law13.great, walked. -/
import Derived.Test.YtebekgdjknenlaaGreatDoorGpAU
set_option maxRecDepth 100000
set_option maxHeartbeats 4000000
set_option linter.unusedVariables false
set_option linter.unusedSimpArgs false
namespace Go.Proofs.YtebekgdjknenlaaGreatDoor.Val
def dec (left : Int) (x : Int) : Int := if 0 ≤ left then x else left
mutual
def gr : V → Int → Int → Int
 | .mk k n t f r l p, left, deep => if deep = 0 ∨ 400 < t.size ∨ 400 < r.size then -1 else grP p (deep - 1) (grL l (deep - 1) (grF f (deep - 1) (left - 1)))
def grF : List (Int × V) → Int → Int → Int
 | [], _, left => left
 | (n, v) :: r, d, left => grF r d (dec left (gr v left d))
def grL : List V → Int → Int → Int
 | [], _, left => left
 | v :: r, d, left => grL r d (dec left (gr v left d))
def grP : List (V × V) → Int → Int → Int
 | [], _, left => left
 | (k, v) :: r, d, left => grP r d (dec (dec left (gr k left d)) (gr v (dec left (gr k left d)) d))
end
theorem dec_le {left x : Int} (h : 0 ≤ left → -1 ≤ x ∧ x ≤ left - 1) (h0 : -1 ≤ left) : -1 ≤ dec left x ∧ dec left x ≤ left := by
 unfold dec
 split
 ·have := h ‹_›; omega
 ·omega
mutual
theorem gr_le : ∀ (v : V) (left deep : Int), 0 ≤ left → -1 ≤ gr v left deep ∧ gr v left deep ≤ left - 1
 | .mk k n t f r l p, left, deep, h => by
  rw [gr]
  split
  ·omega
  ·have h1 := grF_le f (deep - 1) (left - 1) (by omega)
   have h2 := grL_le l (deep - 1) _ h1.1
   have h3 := grP_le p (deep - 1) _ h2.1
   omega
theorem grF_le : ∀ (f : List (Int × V)) (d left : Int), -1 ≤ left → -1 ≤ grF f d left ∧ grF f d left ≤ left
 | [], d, left, h => by rw [grF]; omega
 | (n, v) :: r, d, left, h => by
  rw [grF]
  have h1 := dec_le (fun h => gr_le v left d h) h
  have h2 := grF_le r d _ h1.1
  omega
theorem grL_le : ∀ (f : List V) (d left : Int), -1 ≤ left → -1 ≤ grL f d left ∧ grL f d left ≤ left
 | [], d, left, h => by rw [grL]; omega
 | v :: r, d, left, h => by
  rw [grL]
  have h1 := dec_le (fun h => gr_le v left d h) h
  have h2 := grL_le r d _ h1.1
  omega
theorem grP_le : ∀ (f : List (V × V)) (d left : Int), -1 ≤ left → -1 ≤ grP f d left ∧ grP f d left ≤ left
 | [], d, left, h => by rw [grP]; omega
 | (k, v) :: r, d, left, h => by
  rw [grP]
  have h1 := dec_le (fun h => gr_le k left d h) h
  have h2 := dec_le (fun h => gr_le v _ d h) h1.1
  have h3 := grP_le r d _ h2.1
  omega
end
mutual
theorem gr_vmx : ∀ (v : V) (left deep : Int), 0 ≤ left → 0 ≤ gr v left deep → (vmx v : Int) + 1 ≤ left - gr v left deep
 | .mk k n t f r l p, left, deep, h, h0 => by
  rw [gr] at h0 ⊢
  split at h0
  ·omega
  rename_i hc
  rw [if_neg hc]
  have h1 := grF_le f (deep - 1) (left - 1) (by omega)
  have h2 := grL_le l (deep - 1) _ h1.1
  have h3 := grP_le p (deep - 1) _ h2.1
  have g1 := grF_vmx f (deep - 1) (left - 1) (by omega) (by omega)
  have g2 := grL_vmx l (deep - 1) _ h1.1 (by omega)
  have g3 := grP_vmx p (deep - 1) _ h2.1 h0
  rw [vmx]
  omega
theorem grF_vmx : ∀ (f : List (Int × V)) (d left : Int), -1 ≤ left → 0 ≤ grF f d left → (f.length : Int) ≤ left - grF f d left ∧ (vmxF f : Int) ≤ left - grF f d left
 | [], d, left, h, h0 => by rw [grF] at h0 ⊢; rw [vmxF]; simp
 | (n, v) :: r, d, left, h, h0 => by
  rw [grF] at h0 ⊢
  have h1 := dec_le (fun h => gr_le v left d h) h
  have h2 := grF_le r d _ h1.1
  have h3 := grF_vmx r d _ h1.1 h0
  have hl : 0 ≤ left := by omega
  have e : dec left (gr v left d) = gr v left d := if_pos hl
  rw [e] at h0 h1 h2 h3 ⊢
  have h4 := gr_vmx v left d hl (by omega)
  rw [vmxF]
  simp only [List.length_cons]
  omega
theorem grL_vmx : ∀ (f : List V) (d left : Int), -1 ≤ left → 0 ≤ grL f d left → (f.length : Int) ≤ left - grL f d left ∧ (vmxL f : Int) ≤ left - grL f d left
 | [], d, left, h, h0 => by rw [grL] at h0 ⊢; rw [vmxL]; simp
 | v :: r, d, left, h, h0 => by
  rw [grL] at h0 ⊢
  have h1 := dec_le (fun h => gr_le v left d h) h
  have h2 := grL_le r d _ h1.1
  have h3 := grL_vmx r d _ h1.1 h0
  have hl : 0 ≤ left := by omega
  have e : dec left (gr v left d) = gr v left d := if_pos hl
  rw [e] at h0 h1 h2 h3 ⊢
  have h4 := gr_vmx v left d hl (by omega)
  rw [vmxL]
  simp only [List.length_cons]
  omega
theorem grP_vmx : ∀ (f : List (V × V)) (d left : Int), -1 ≤ left → 0 ≤ grP f d left → (f.length : Int) ≤ left - grP f d left ∧ (vmxP f : Int) ≤ left - grP f d left
 | [], d, left, h, h0 => by rw [grP] at h0 ⊢; rw [vmxP]; simp
 | (k, v) :: r, d, left, h, h0 => by
  rw [grP] at h0 ⊢
  have h1 := dec_le (fun h => gr_le k left d h) h
  have h2 := dec_le (fun h => gr_le v _ d h) h1.1
  have h3 := grP_le r d _ h2.1
  have h4 := grP_vmx r d _ h2.1 h0
  have hl : 0 ≤ left := by omega
  have e : dec left (gr k left d) = gr k left d := if_pos hl
  rw [e] at h0 h1 h2 h3 h4 ⊢
  have hl2 : 0 ≤ gr k left d := by omega
  have e2 : dec (gr k left d) (gr v (gr k left d) d) = gr v (gr k left d) d := if_pos hl2
  rw [e2] at h0 h2 h3 h4 ⊢
  have h5 := gr_vmx k left d hl (by omega)
  have h6 := gr_vmx v _ d hl2 (by omega)
  rw [vmxP]
  simp only [List.length_cons]
  omega
end
mutual
def ge : E → Int → Int → Int
 | .mk k o n f r ro rn s ks, left, deep => if deep = 0 ∨ 300 < ro.size ∨ 300 < rn.size ∨ gr o 60 30 < 0 ∨ gr n 60 30 < 0 then -1 else match geS s (deep - 1) (geF f (deep - 1) (left - 1)) with
  | none => -1
  | some l => geK ks (deep - 1) l
def geF : List (Int × E) → Int → Int → Int
 | [], _, left => left
 | (n, e) :: r, d, left => geF r d (dec left (ge e left d))
def geS : List (Int × Int × V × E) → Int → Int → Option Int
 | [], d, left => some left
 | (k, c, v, e) :: r, d, left => if 0 ≤ left ∧ (gr v 60 30 < 0 ∨ 2097152 < c) then none else geS r d (dec left (ge e left d))
def geK : List (V × E) → Int → Int → Int
 | [], _, left => left
 | (k, e) :: r, d, left => if 0 ≤ left ∧ gr k 20 30 < 0 then -1 else geK r d (dec left (ge e left d))
end
mutual
theorem ge_le : ∀ (v : E) (left deep : Int), 0 ≤ left → -1 ≤ ge v left deep ∧ ge v left deep ≤ left - 1
 | .mk k o n f r ro rn s ks, left, deep, h => by
  rw [ge]
  split
  ·omega
  ·have h1 := geF_le f (deep - 1) (left - 1) (by omega)
   have h2 := geS_le s (deep - 1) _ h1.1
   cases hS : geS s (deep - 1) (geF f (deep - 1) (left - 1)) with
   | none => simp only; omega
   | some l =>
    have h3 := h2 l hS
    have h4 := geK_le ks (deep - 1) l h3.1
    simp only; omega
theorem geF_le : ∀ (f : List (Int × E)) (d left : Int), -1 ≤ left → -1 ≤ geF f d left ∧ geF f d left ≤ left
 | [], d, left, h => by rw [geF]; omega
 | (n, v) :: r, d, left, h => by
  rw [geF]
  have h1 := dec_le (fun h => ge_le v left d h) h
  have h2 := geF_le r d _ h1.1
  omega
theorem geS_le : ∀ (f : List (Int × Int × V × E)) (d left : Int), -1 ≤ left → ∀ l, geS f d left = some l → -1 ≤ l ∧ l ≤ left
 | [], d, left, h => by rw [geS]; intro l hl; cases hl; omega
 | (k, c, v, e) :: r, d, left, h => by
  rw [geS]
  split
  ·intro l hl; cases hl
  have h1 := dec_le (fun h => ge_le e left d h) h
  intro l hl
  have h2 := geS_le r d _ h1.1 l hl
  omega
theorem geK_le : ∀ (f : List (V × E)) (d left : Int), -1 ≤ left → -1 ≤ geK f d left ∧ geK f d left ≤ left
 | [], d, left, h => by rw [geK]; omega
 | (k, v) :: r, d, left, h => by
  rw [geK]
  split
  ·omega
  have h1 := dec_le (fun h => ge_le v left d h) h
  have h3 := geK_le r d _ h1.1
  omega
end
mutual
theorem ge_esz : ∀ (v : E) (left deep : Int), 0 ≤ left → 0 ≤ ge v left deep → (esz v : Int) + 62 ≤ 200 * (left - ge v left deep) ∧ esm v
 | .mk k o n f r ro rn s ks, left, deep, h, h0 => by
  rw [ge] at h0 ⊢
  split at h0
  ·omega
  rename_i hc
  rw [if_neg hc]
  simp only [not_or] at hc
  have h1 := geF_le f (deep - 1) (left - 1) (by omega)
  cases hS : geS s (deep - 1) (geF f (deep - 1) (left - 1)) with
  | none => rw [hS] at h0; simp only at h0; omega
  | some l =>
  rw [hS] at h0
  simp only at h0 ⊢
  have h2 := geS_le s (deep - 1) _ h1.1 l hS
  have h3 := geK_le ks (deep - 1) l h2.1
  have g1 := geF_esz f (deep - 1) (left - 1) (by omega) (by omega)
  have g2 := geS_esz s (deep - 1) _ h1.1 l hS (by omega)
  have g3 := geK_esz ks (deep - 1) l h2.1 h0
  have o1 := gr_vmx o 60 30 (by omega) (by omega)
  have n1 := gr_vmx n 60 30 (by omega) (by omega)
  rw [esz, esm]
  exact ⟨by omega, ⟨by omega, by omega⟩, g1.2, g2.2, g3.2⟩
theorem geF_esz : ∀ (f : List (Int × E)) (d left : Int), -1 ≤ left → 0 ≤ geF f d left → (eszF f : Int) ≤ 200 * (left - geF f d left) ∧ esmF f
 | [], d, left, h, h0 => by rw [geF] at h0 ⊢; rw [eszF, esmF]; simp
 | (n, v) :: r, d, left, h, h0 => by
  rw [geF] at h0 ⊢
  have h1 := dec_le (fun h => ge_le v left d h) h
  have h2 := geF_le r d _ h1.1
  have h3 := geF_esz r d _ h1.1 h0
  have hl : 0 ≤ left := by omega
  have e : dec left (ge v left d) = ge v left d := if_pos hl
  rw [e] at h0 h1 h2 h3 ⊢
  have h4 := ge_esz v left d hl (by omega)
  rw [eszF, esmF]
  exact ⟨by omega, h4.2, h3.2⟩
theorem geS_esz : ∀ (f : List (Int × Int × V × E)) (d left : Int), -1 ≤ left → ∀ l, geS f d left = some l → 0 ≤ l → (eszS f : Int) ≤ 200 * (left - l) ∧ esmS f
 | [], d, left, h, l, hl, h0 => by
  rw [geS] at hl
  cases hl
  rw [eszS, esmS]
  exact ⟨by omega, trivial⟩
 | (k, c, v, e) :: r, d, left, h, l, hl', h0 => by
  rw [geS] at hl'
  split at hl'
  ·cases hl'
  rename_i hc
  have h1 := dec_le (fun h => ge_le e left d h) h
  have h2 := geS_le r d _ h1.1 l hl'
  have h3 := geS_esz r d _ h1.1 l hl' h0
  have hl : 0 ≤ left := by omega
  have e1 : dec left (ge e left d) = ge e left d := if_pos hl
  rw [e1] at h1 h2 h3
  have h4 := ge_esz e left d hl (by omega)
  have hv : ¬ gr v 60 30 < 0 := fun hh => hc ⟨hl, .inl hh⟩
  have v1 := gr_vmx v 60 30 (by omega) (by omega)
  rw [eszS, esmS]
  exact ⟨by omega, h4.2, h3.2⟩
theorem geK_esz : ∀ (f : List (V × E)) (d left : Int), -1 ≤ left → 0 ≤ geK f d left → (eszK f : Int) ≤ 200 * (left - geK f d left) ∧ esmK f
 | [], d, left, h, h0 => by rw [geK] at h0 ⊢; rw [eszK, esmK]; simp
 | (k, v) :: r, d, left, h, h0 => by
  rw [geK] at h0 ⊢
  split at h0
  ·omega
  rename_i hc
  rw [if_neg hc]
  have h1 := dec_le (fun h => ge_le v left d h) h
  have h2 := geK_le r d _ h1.1
  have h3 := geK_esz r d _ h1.1 h0
  have hl : 0 ≤ left := by omega
  have e : dec left (ge v left d) = ge v left d := if_pos hl
  rw [e] at h0 h1 h2 h3 ⊢
  have h4 := ge_esz v left d hl (by omega)
  have hv : ¬ gr k 20 30 < 0 := fun hh => hc ⟨hl, hh⟩
  have v1 := gr_vmx k 20 30 (by omega) (by omega)
  rw [eszK, esmK]
  exact ⟨by omega, h4.2, h3.2⟩
end
end Go.Proofs.YtebekgdjknenlaaGreatDoor.Val
namespace Go.Proofs.YtebekgdjknenlaaGreatDoor
open Go.RowKit
open Val (V E gr grF grL grP dec ge geF geS geK)
theorem zeroVFg : (Tryz.prog.info? 61).map (·.zero) = some (some (.agg (Value.int .i64 0 :: zV).toArray)) := by kernel_rfl
theorem zeroVPg : (Tryz.prog.info? 65).map (·.zero) = some (some (.agg (zV ++ zV).toArray)) := by kernel_rfl
theorem infoVF : (Tryz.prog.info? 61).map (·.size) = some 8 := by kernel_rfl
theorem infoVP : (Tryz.prog.info? 65).map (·.size) = some 14 := by kernel_rfl
theorem grF_drop {f : List (Int × V)} {k : Nat} (h : k < f.length) (d l : Int) : grF (f.drop k) d l = grF (f.drop (k + 1)) d (dec l (gr f[k].2 l d)) := by
 rw [List.drop_eq_getElem_cons h]
 generalize f[k] = q
 obtain ⟨a, b⟩ := q
 rw [grF]
theorem grL_drop {f : List V} {k : Nat} (h : k < f.length) (d l : Int) : grL (f.drop k) d l = grL (f.drop (k + 1)) d (dec l (gr f[k] l d)) := by
 rw [List.drop_eq_getElem_cons h]
 rw [grL]
theorem grP_drop {f : List (V × V)} {k : Nat} (h : k < f.length) (d l : Int) : grP (f.drop k) d l = grP (f.drop (k + 1)) d (dec (dec l (gr f[k].1 l d)) (gr f[k].2 (dec l (gr f[k].1 l d)) d)) := by
 rw [List.drop_eq_getElem_cons h]
 generalize f[k] = q
 obtain ⟨a, b⟩ := q
 rw [grP]
theorem dec_pos {l x : Int} (h : 0 ≤ l) : dec l x = x := if_pos h
theorem dec_neg {l x : Int} (h : ¬ 0 ≤ l) : dec l x = l := if_neg h
def Great13At (N : Nat) : Prop := ∀ (x : V) (xc : List Value) (w : World) (left deep : Int), SizeOf.sizeOf x < N → VR (frag w) x xc → 0 ≤ left → left ≤ 1000 → 0 ≤ deep → deep ≤ 30 →
 Calls Tryz.prog 16 #[.agg xc.toArray, .int .i64 left, .int .i64 deep] w fun e w' => e = .returned (.int .i64 (gr x left deep)) ∧ Below w.heap.size w w'
def GEnd (F : World → Prop) (r : Int) (v : Value) (w : World) : Prop := v = .int .i64 r ∧ F w
theorem great13_at (N : Nat) (ih : Great13At N) (x : V) (xc : List Value) (w : World) (left deep : Int) (hs : SizeOf.sizeOf x < N + 1) (hx : VR (frag w) x xc) (hl0 : 0 ≤ left) (hl1 : left ≤ 1000) (hp0 : 0 ≤ deep) (hp1 : deep ≤ 30) :
  Calls Tryz.prog 16 #[.agg xc.toArray, .int .i64 left, .int .i64 deep] w fun e w' => e = .returned (.int .i64 (gr x left deep)) ∧ Below w.heap.size w w' := by
 have hsF : ∀ e ∈ x.fields, SizeOf.sizeOf e.2 < N := fun e h => by have := Val.size_field (x := x) (m := e.1) (v := e.2) h; omega
 have hsL : ∀ e ∈ x.list, SizeOf.sizeOf e < N := fun e h => by have := Val.size_list (x := x) h; omega
 have hsP : ∀ e ∈ x.pairs, SizeOf.sizeOf e.1 < N ∧ SizeOf.sizeOf e.2 < N := fun e h => by have := Val.size_pair (x := x) (k := e.1) (v := e.2) h; omega
 have HW := Yq hx
 obtain ⟨k, n, t, f, r, l, p⟩ := x
 rw [VR] at hx
 obtain ⟨fv, lv, pv, fe, le, pe, rfl, hsz, ⟨h3, h4, h5⟩, h6, h7, h8⟩ := hx
 obtain ⟨a1, c1, rfl, hc1, hd1, _⟩ := h3.len
 obtain ⟨a2, c2, rfl, hc2, hd2, _⟩ := h4.len
 obtain ⟨a3, c3, rfl, hc3, hd3, _⟩ := h5.len
 simp only [Val.V.fields, Val.V.list, Val.V.pairs] at hsF hsL hsP
 have HSF := Yq hsF; have HSL := Yq hsL; have HSP := Yq hsP
 have H3 := Yq h3; have H4 := Yq h4; have H5 := Yq h5
 have H6 := Yq h6; have H7 := Yq h7; have H8 := Yq h8
 have hln1 := h6.len; have hln2 := h7.len; have hln3 := h8.len
 have HS := Yq (fun (w2 : World) (g : Nat) (hB : Blk w2 g [.int .i64 k, .int .u64 n, .string t, .slice a1 fe.length c1, .string r, .slice a2 le.length c2, .slice a3 pe.length c3]) => And.intro (hB.cell (o := 2) (u := .string t) rfl) (And.intro (hB.cell (o := 3) (u := .slice a1 fe.length c1) rfl) (And.intro (hB.cell (o := 4) (u := .string r) rfl) (And.intro (hB.cell (o := 5) (u := .slice a2 le.length c2) rfl) (hB.cell (o := 6) (u := .slice a3 pe.length c3) rfl)))))
 unfold maxLen at hd1 hd2 hd3
 clear h3 h4 h5 h6 h7 h8 hs hsF hsL hsP hsz
 obtain ⟨n1, hn1⟩ : ∃ n1, n1 = fe.length := ⟨_, rfl⟩
 obtain ⟨n2, hn2⟩ : ∃ n2, n2 = le.length := ⟨_, rfl⟩
 obtain ⟨n3, hn3⟩ : ∃ n3, n3 = pe.length := ⟨_, rfl⟩
 rw [← hn1] at H3 HS hc1 hln1
 rw [← hn2] at H4 HS hc2 hln2
 rw [← hn3] at H5 HS hc3 hln3
 have Hn1 := Yq hn1.symm; have Hm1 := Yq hln1.symm
 have Hn2 := Yq hn2.symm; have Hm2 := Yq hln2.symm
 have Hn3 := Yq hn3.symm; have Hm3 := Yq hln3.symm
 rw [← hn1, ← hn2, ← hn3]
 clear hn1 hn2 hn3 hln1 hln2 hln3 HW
 generalize hxc : [Value.int .i64 k, .int .u64 n, .string t, .slice a1 n1 c1, .string r, .slice a2 n2 c2, .slice a3 n3 c3] = xc at *
 clear hxc
 by_cases hg : deep = 0 ∨ 400 < t.size ∨ 400 < r.size
 ·have HK : Hid (gr (.mk k n t f r l p) left deep = -1) := by show _ = _; rw [gr]; exact if_pos hg
  rw [HK.out]
  clear HK
  have hg3 : deep = 0 ∨ (deep ≠ 0 ∧ 400 < t.size) ∨ (deep ≠ 0 ∧ ¬ 400 < t.size ∧ 400 < r.size) := by omega
  clear hg
  rcases hg3 with hg | ⟨g0, g1⟩ | ⟨g0, g1, g2⟩
  ·subst hg
   go_enter Tryz.func16, Tryz.ntmps16
   go_wp2_with (first
    | (refine wpList_box_lay rfl 27 _ rfl _ rfl ?_; (intro w0 g0 hg0 hB0 hb0; obtain ⟨q2, q3, q4, q5, q6⟩ := HS.out _ _ hB0)))
   go_ret
   exact ⟨rfl, hb0⟩
  ·have d0 : decide (deep = 0) = false := decide_eq_false g0
   have d1 : decide (400 < t.size) = true := decide_eq_true g1
   have d2 : decide ((400 : Int) < (t.size : Int)) = true := decide_eq_true (by omega)
   go_enter Tryz.func16, Tryz.ntmps16
   go_wp2_with (first
    | (refine wpList_box_lay rfl 27 _ rfl _ rfl ?_; (intro w0 g0 hg0 hB0 hb0; obtain ⟨q2, q3, q4, q5, q6⟩ := HS.out _ _ hB0)))
   go_ret
   exact ⟨rfl, hb0⟩
  ·have d0 : decide (deep = 0) = false := decide_eq_false g0
   have d1 : decide (400 < t.size) = false := decide_eq_false g1
   have d2 : decide ((400 : Int) < (t.size : Int)) = false := decide_eq_false (by omega)
   have d3 : decide (400 < r.size) = true := decide_eq_true g2
   have d4 : decide ((400 : Int) < (r.size : Int)) = true := decide_eq_true (by omega)
   go_enter Tryz.func16, Tryz.ntmps16
   go_wp2_with (first
    | (refine wpList_box_lay rfl 27 _ rfl _ rfl ?_; (intro w0 g0 hg0 hB0 hb0; obtain ⟨q2, q3, q4, q5, q6⟩ := HS.out _ _ hB0)))
   go_ret
   exact ⟨rfl, hb0⟩
 ·have HK : Hid (gr (.mk k n t f r l p) left deep = grP p (deep - 1) (grL l (deep - 1) (grF f (deep - 1) (left - 1)))) := by show _ = _; rw [gr]; exact if_neg hg
  have Hr1 := Yq (Val.grF_le f (deep - 1) (left - 1) (by omega))
  have Hr2 := Yq (Val.grL_le l (deep - 1) _ Hr1.out.1)
  have Hr3 := Yq (Val.grP_le p (deep - 1) _ Hr2.out.1)
  rw [HK.out]
  clear HK
  have g0 : ¬ deep = 0 := by omega
  have d0 : decide (deep = 0) = false := decide_eq_false g0
  have d1 : decide (400 < t.size) = false := decide_eq_false (by omega)
  have d2 : decide ((400 : Int) < (t.size : Int)) = false := decide_eq_false (by omega)
  have d3 : decide (400 < r.size) = false := decide_eq_false (by omega)
  have d4 : decide ((400 : Int) < (r.size : Int)) = false := decide_eq_false (by omega)
  clear hg
  go_enter Tryz.func16, Tryz.ntmps16
  go_wp2_with (first
   | (refine wpList_box_lay rfl 27 _ rfl _ rfl ?_; (intro w0 g0 hg0 hB0 hb0; obtain ⟨q2, q3, q4, q5, q6⟩ := HS.out _ _ hB0; have HB0 := Yq hB0; clear hB0)))
  clear q2 q3 q4 q5 q6 d0 d1 d2 d3 d4
  go_loopw [1, 32] (fun lv i wr => ∃ (k : Nat) (la : Int), k ≤ n1 ∧ i = .int .i64 k ∧ lv = .int .i64 la ∧ (-1 ≤ la ∧ la ≤ 1000) ∧ Hid (grF f (deep - 1) (left - 1) = grF (f.drop k) (deep - 1) la) ∧ Below w.heap.size w wr ∧ Hid (Blk wr g0 xc)) (fun _ i _ => n1 - (intOf i).toNat)
  case atStart => exact ⟨0, _, Nat.zero_le _, rfl, rfl, ⟨by omega, by omega⟩, (by show _ = _; simp), hb0, HB0⟩
  case round =>
   obtain ⟨k, la, hk, rfl, rfl, ⟨hla0, hla1⟩, Hinv, hbel, HBr⟩ := hrel
   have hsz := hbel.size
   by_cases hlt : k < n1
   ·have hks : k < fe.length := by rw [Hn1.out]; exact hlt
    have hkf : k < f.length := by rw [Hm1.out]; exact hlt
    have Hd := Yq (grF_drop hkf (deep - 1) la)
    have HSZ := Yq (HSF.out _ (List.getElem_mem hkf))
    obtain ⟨b0, o0, hb0', hidx, hcell⟩ := FlatC.at (n := n1) (cap := c1) (a := a1) H3.out (by decide) (i := k) hks Tryz.underlying23 sizeFld
    have hr : wr.rangeAt b0 o0 fe[k] := range_below hcell hbel hb0'
    have hbr := below_le hbel
    obtain ⟨yc, hx, rx⟩ := H6.out.at hkf hks
    rw [hx] at hr
    have HRX := Yq rx
    have HL := Yq (show (Value.int .i64 f[k].1 :: yc).length = 8 by simp [rx.len])
    have H1 := Yq (one8 ⟨f[k].1, yc, rx.shape, rfl⟩)
    have HLy := Yq rx.len
    have HBs := Yq (fun (w2 : World) (g : Nat) (hB : Blk w2 g (.int .i64 f[k].1 :: yc)) => (show w2.rangeAt g 1 yc from hB.range (p := [.int .i64 f[k].1]) (q := yc) (r := []) (by simp) rfl))
    clear hcell hx rx
    by_cases hpos : 0 ≤ la
    ·have hrg := Val.gr_le f[k].2 la (deep - 1) hpos
     have HC : Hid (∀ (wx : World), Below wr.heap.size wr wx → Calls Tryz.prog 16 #[.agg yc.toArray, .int .i64 la, .int .i64 (deep - 1)] wx fun e w' => e = .returned (.int .i64 (gr f[k].2 la (deep - 1))) ∧ Below wx.heap.size wx w') := fun wx hb =>
      ih f[k].2 yc wx la (deep - 1) HSZ.out (HRX.out.mono (hbr.trans (below_le hb))) hpos hla1 (by omega) (by omega)
     rw [dec_pos hpos] at Hd
     generalize gr f[k].2 la (deep - 1) = lb at *
     generalize f[k].1 = fnum at *
     go_wp2_with (first
      | (refine wpList_load_seg rfl 61 _ rfl _ _ rfl _ _ hr Tryz.underlying61 rfl (iC infoVF HL) ?_)
      | (refine wpList_load_seg rfl 27 _ rfl _ _ rfl _ _ (by assumption) Tryz.underlying27 rfl (iC infoV HLy) ?_)
      | (refine wpList_alloc_lay rfl 61 rfl (.int .i64 0 :: zV) zeroVFg ?_; (intro w1 g hg hB1 hb1; clear hr))
      | (refine wpList_store_all rfl 61 _ _ rfl _ _ rfl rfl (.int .i64 0 :: zV) (by assumption) ?_ ?_ ?_ ?_; (· exact iC infoVF HL); (· exact HL.out); (· exact H1.out); (intro w2 hB2 hgr; have hb2 := Below.grown hb1 hgr hb1.size (fun _ e => by cases e; exact hg); have r1 := HBs.out w2 _ hB2; clear hb1 hgr hB1 hB2))
      | (go_at_call 16; (with_reducible refine (HC.out _ hb2).mono ?_); rintro e w3 ⟨rfl, hb3⟩; have hbw := hbel.trans ((hb2.trans (hb3.mono hb2.size)).mono hsz); have HB3 := Yq (HBr.out.below (hb2.trans (hb3.mono hb2.size)) HBr.out.lt); clear hb2 hb3 r1))
     go_roundw
     case rel => exact ⟨k + 1, lb, by omega, by go_num, rfl, ⟨by omega, by omega⟩, Hinv.out.trans Hd.out, hbw, HB3⟩
     case measure => simp [intOf]; omega
    ·have hpn : la = -1 := by omega
     rw [dec_neg hpos] at Hd
     clear hpos
     subst hpn
     generalize f[k].1 = fnum at *
     go_wp2_with (first
      | (refine wpList_load_seg rfl 61 _ rfl _ _ rfl _ _ hr Tryz.underlying61 rfl (iC infoVF HL) ?_)
      | (refine wpList_alloc_lay rfl 61 rfl (.int .i64 0 :: zV) zeroVFg ?_; (intro w1 g hg hB1 hb1; clear hr))
      | (refine wpList_store_all rfl 61 _ _ rfl _ _ rfl rfl (.int .i64 0 :: zV) (by assumption) ?_ ?_ ?_ ?_; (· exact iC infoVF HL); (· exact HL.out); (· exact H1.out); (intro w2 hB2 hgr; have hb2 := Below.grown hb1 hgr hb1.size (fun _ e => by cases e; exact hg); have hbw := hbel.trans (hb2.mono hsz); have HB3 := Yq (HBr.out.below hb2 HBr.out.lt); clear hb1 hgr hB1 hB2 hb2)))
     go_roundw
     case rel => exact ⟨k + 1, -1, by omega, by go_num, rfl, ⟨by omega, by omega⟩, Hinv.out.trans Hd.out, hbw, HB3⟩
     case measure => simp [intOf]; omega
   ·obtain rfl : k = n1 := by omega
    have Hla : Hid (la = grF f (deep - 1) (left - 1)) := by show _ = _; rw [Hinv.out, ← Hm1.out, List.drop_length, grF]
    have HB1 := HBr
    have hb1 := hbel
    obtain ⟨q2, q3, q4, q5, q6⟩ := HS.out _ _ HBr.out
    clear hlt
    have Hla1 := Hla
    have hlr1 : -1 ≤ la ∧ la ≤ 1000 := ⟨hla0, hla1⟩
    generalize la = la1 at *
    clear Hla Hinv hla0 hla1 hbel HBr hsz
    go_wp2_with fail
    clear q2 q3 q4 q5 q6
    go_loopw [1, 48] (fun lv i wr => ∃ (k : Nat) (la : Int), k ≤ n2 ∧ i = .int .i64 k ∧ lv = .int .i64 la ∧ (-1 ≤ la ∧ la ≤ 1000) ∧ Hid (grL l (deep - 1) (grF f (deep - 1) (left - 1)) = grL (l.drop k) (deep - 1) la) ∧ Below w.heap.size w wr ∧ Hid (Blk wr g0 xc)) (fun _ i _ => n2 - (intOf i).toNat)
    case atStart => exact ⟨0, la1, Nat.zero_le _, rfl, rfl, hlr1, (by show _ = _; rw [Hla1.out]; simp), hb1, HB1⟩
    case round =>
     obtain ⟨k, la, hk, rfl, rfl, ⟨hla0, hla1⟩, Hinv, hbel, HBr⟩ := hrel
     have hsz := hbel.size
     by_cases hlt : k < n2
     ·have hks : k < le.length := by rw [Hn2.out]; exact hlt
      have hkf : k < l.length := by rw [Hm2.out]; exact hlt
      have Hd := Yq (grL_drop hkf (deep - 1) la)
      have HSZ := Yq (HSL.out _ (List.getElem_mem hkf))
      obtain ⟨b0, o0, hb0', hidx, hcell⟩ := FlatC.at (n := n2) (cap := c2) (a := a2) H4.out (by decide) (i := k) hks Tryz.underlying24 sizeVal
      have hr : wr.rangeAt b0 o0 le[k] := range_below hcell hbel hb0'
      have hbr := below_le hbel
      have rx : VR (frag w) l[k] le[k] := H7.out.at hkf hks
      have HLk := Yq rx.len
      generalize hle : le[k] = yc at *
      clear hle
      have HRX := Yq rx
      have HL := Yq rx.len
      have H1 := Yq (one7 rx.shape)
      have HLy := Yq rx.len
      have HBs := Yq (fun (w2 : World) (g : Nat) (hB : Blk w2 g yc) => hB.whole)
      clear hcell rx
      by_cases hpos : 0 ≤ la
      ·have hrg := Val.gr_le l[k] la (deep - 1) hpos
       have HC : Hid (∀ (wx : World), Below wr.heap.size wr wx → Calls Tryz.prog 16 #[.agg yc.toArray, .int .i64 la, .int .i64 (deep - 1)] wx fun e w' => e = .returned (.int .i64 (gr l[k] la (deep - 1))) ∧ Below wx.heap.size wx w') := fun wx hb =>
        ih l[k] yc wx la (deep - 1) HSZ.out (HRX.out.mono (hbr.trans (below_le hb))) hpos hla1 (by omega) (by omega)
       rw [dec_pos hpos] at Hd
       generalize gr l[k] la (deep - 1) = lb at *
       go_wp2_with (first
        | (refine wpList_load_seg rfl 27 _ rfl _ _ rfl _ _ (by assumption) Tryz.underlying27 rfl (iC infoV HLy) ?_)
        | (refine wpList_alloc_lay rfl 27 rfl zV zeroV ?_; (intro w1 g hg hB1 hb1; clear hr))
        | (refine wpList_store_all rfl 27 _ _ rfl _ _ rfl rfl zV (by assumption) ?_ ?_ ?_ ?_; (· exact iC infoV HL); (· exact HL.out); (· exact H1.out); (intro w2 hB2 hgr; have hb2 := Below.grown hb1 hgr hb1.size (fun _ e => by cases e; exact hg); have r1 := HBs.out w2 _ hB2; clear hb1 hgr hB1 hB2))
        | (go_at_call 16; (with_reducible refine (HC.out _ hb2).mono ?_); rintro e w3 ⟨rfl, hb3⟩; have hbw := hbel.trans ((hb2.trans (hb3.mono hb2.size)).mono hsz); have HB3 := Yq (HBr.out.below (hb2.trans (hb3.mono hb2.size)) HBr.out.lt); clear hb2 hb3 r1))
       go_roundw
       case rel => exact ⟨k + 1, lb, by omega, by go_num, rfl, ⟨by omega, by omega⟩, Hinv.out.trans Hd.out, hbw, HB3⟩
       case measure => simp [intOf]; omega
      ·have hpn : la = -1 := by omega
       rw [dec_neg hpos] at Hd
       clear hpos
       subst hpn
       go_wp2_with (first
        | (refine wpList_load_seg rfl 27 _ rfl _ _ rfl _ _ hr Tryz.underlying27 rfl (iC infoV HL) ?_)
        | (refine wpList_alloc_lay rfl 27 rfl zV zeroV ?_; (intro w1 g hg hB1 hb1; clear hr))
        | (refine wpList_store_all rfl 27 _ _ rfl _ _ rfl rfl zV (by assumption) ?_ ?_ ?_ ?_; (· exact iC infoV HL); (· exact HL.out); (· exact H1.out); (intro w2 hB2 hgr; have hb2 := Below.grown hb1 hgr hb1.size (fun _ e => by cases e; exact hg); have hbw := hbel.trans (hb2.mono hsz); have HB3 := Yq (HBr.out.below hb2 HBr.out.lt); clear hb1 hgr hB1 hB2 hb2)))
       go_roundw
       case rel => exact ⟨k + 1, -1, by omega, by go_num, rfl, ⟨by omega, by omega⟩, Hinv.out.trans Hd.out, hbw, HB3⟩
       case measure => simp [intOf]; omega
     ·obtain rfl : k = n2 := by omega
      have Hla : Hid (la = grL l (deep - 1) (grF f (deep - 1) (left - 1))) := by show _ = _; rw [Hinv.out, ← Hm2.out, List.drop_length, grL]
      have HB2 := HBr
      have hb2 := hbel
      obtain ⟨q2, q3, q4, q5, q6⟩ := HS.out _ _ HBr.out
      clear hlt
      have Hla2 := Hla
      have hlr2 : -1 ≤ la ∧ la ≤ 1000 := ⟨hla0, hla1⟩
      generalize la = la2 at *
      clear Hla Hinv hla0 hla1 hbel HBr hsz
      go_wp2_with fail
      clear q2 q3 q4 q5 q6
      go_loopw [1, 63] (fun lv i wr => ∃ (k : Nat) (la : Int), k ≤ n3 ∧ i = .int .i64 k ∧ lv = .int .i64 la ∧ (-1 ≤ la ∧ la ≤ 1000) ∧ Hid (grP p (deep - 1) (grL l (deep - 1) (grF f (deep - 1) (left - 1))) = grP (p.drop k) (deep - 1) la) ∧ Below w.heap.size w wr ∧ Hid (Blk wr g0 xc)) (fun _ i _ => n3 - (intOf i).toNat)
      case atStart => exact ⟨0, la2, Nat.zero_le _, rfl, rfl, hlr2, (by show _ = _; rw [Hla2.out]; simp), hb2, HB2⟩
      case round =>
       obtain ⟨k, la, hk, rfl, rfl, ⟨hla0, hla1⟩, Hinv, hbel, HBr⟩ := hrel
       have hsz := hbel.size
       by_cases hlt : k < n3
       ·have hks : k < pe.length := by rw [Hn3.out]; exact hlt
        have hkf : k < p.length := by rw [Hm3.out]; exact hlt
        have Hd := Yq (grP_drop hkf (deep - 1) la)
        have HSZ := Yq (HSP.out _ (List.getElem_mem hkf))
        obtain ⟨b0, o0, hb0', hidx, hcell⟩ := FlatC.at (n := n3) (cap := c3) (a := a3) H5.out (by decide) (i := k) hks Tryz.underlying25 sizePar
        have hr : wr.rangeAt b0 o0 pe[k] := range_below hcell hbel hb0'
        have hbr := below_le hbel
        obtain ⟨kc, yc, hx, rk, rx⟩ := H8.out.at hkf hks
        rw [hx] at hr
        have HRK := Yq rk
        have HRX := Yq rx
        have HL := Yq (show (kc ++ yc).length = 14 by simp [rx.len, rk.len])
        have H1 := Yq (one14 ⟨kc, yc, rk.shape, rx.shape, rfl⟩)
        have HLy := Yq rx.len
        have HLk := Yq rk.len
        have HBs := Yq (fun (w2 : World) (g : Nat) (hB : Blk w2 g (kc ++ yc)) => And.intro (show w2.rangeAt g 0 kc from hB.range (p := []) (q := kc) (r := yc) (by simp) rfl) (show w2.rangeAt g 7 yc from hB.range (p := kc) (q := yc) (r := []) (by simp) HLk.out))
        clear hcell hx rx rk
        by_cases hpos : 0 ≤ la
        ·have hrg := Val.gr_le p[k].1 la (deep - 1) hpos
         have HC : Hid (∀ (wx : World), Below wr.heap.size wr wx → Calls Tryz.prog 16 #[.agg kc.toArray, .int .i64 la, .int .i64 (deep - 1)] wx fun e w' => e = .returned (.int .i64 (gr p[k].1 la (deep - 1))) ∧ Below wx.heap.size wx w') := fun wx hb =>
          ih p[k].1 kc wx la (deep - 1) HSZ.out.1 (HRK.out.mono (hbr.trans (below_le hb))) hpos hla1 (by omega) (by omega)
         rw [dec_pos hpos] at Hd
         by_cases hpos2 : 0 ≤ gr p[k].1 la (deep - 1)
         ·have hrg2 := Val.gr_le p[k].2 (gr p[k].1 la (deep - 1)) (deep - 1) hpos2
          have HC2 : Hid (∀ (wx : World), Below wr.heap.size wr wx → Calls Tryz.prog 16 #[.agg yc.toArray, .int .i64 (gr p[k].1 la (deep - 1)), .int .i64 (deep - 1)] wx fun e w' => e = .returned (.int .i64 (gr p[k].2 (gr p[k].1 la (deep - 1)) (deep - 1))) ∧ Below wx.heap.size wx w') := fun wx hb =>
           ih p[k].2 yc wx _ (deep - 1) HSZ.out.2 (HRX.out.mono (hbr.trans (below_le hb))) hpos2 (by omega) (by omega) (by omega)
          rw [dec_pos hpos2] at Hd
          generalize gr p[k].2 (gr p[k].1 la (deep - 1)) (deep - 1) = lc at *
          generalize gr p[k].1 la (deep - 1) = lb at *
          go_wp2_with (first
           | (refine wpList_load_seg rfl 65 _ rfl _ _ rfl _ _ hr Tryz.underlying65 rfl (iC infoVP HL) ?_)
           | (refine wpList_load_seg rfl 27 _ rfl _ _ rfl _ _ (by assumption) Tryz.underlying27 rfl ?_ ?_; (· first | exact iC infoV HLk | exact iC infoV HLy))
           | (refine wpList_alloc_lay rfl 65 rfl (zV ++ zV) zeroVPg ?_; (intro w1 g hg hB1 hb1; clear hr))
           | (refine wpList_store_all rfl 65 _ _ rfl _ _ rfl rfl (zV ++ zV) (by assumption) ?_ ?_ ?_ ?_; (· exact iC infoVP HL); (· exact HL.out); (· exact H1.out); (intro w2 hB2 hgr; have hb2 := Below.grown hb1 hgr hb1.size (fun _ e => by cases e; exact hg); have r0 := (HBs.out w2 _ hB2).1; have HB2 := Yq hB2; clear hb1 hgr hB1 hB2))
           | (go_at_call 16; (with_reducible refine (HC.out _ hb2).mono ?_); rintro e w3 ⟨rfl, hb3⟩; have hb4 := hb2.trans (hb3.mono hb2.size); have r1 := (HBs.out w3 _ (HB2.out.below hb3 HB2.out.lt)).2; clear hb2 hb3 r0 HC)
           | (go_at_call 16; (with_reducible refine (HC2.out _ hb4).mono ?_); rintro e w5 ⟨rfl, hb5⟩; have hb6 := hb4.trans (hb5.mono hb4.size); have hbw := hbel.trans (hb6.mono hsz); have HB3 := Yq (HBr.out.below hb6 HBr.out.lt); clear hb4 hb5 hb6 r1))
          go_roundw
          case rel => exact ⟨k + 1, lc, by omega, by go_num, rfl, ⟨by omega, by omega⟩, Hinv.out.trans Hd.out, hbw, HB3⟩
          case measure => simp [intOf]; omega
         ·have hpn : gr p[k].1 la (deep - 1) = -1 := by omega
          rw [dec_neg hpos2, hpn] at Hd
          rw [hpn] at HC
          clear hpos2 hpn hrg
          go_wp2_with (first
           | (refine wpList_load_seg rfl 65 _ rfl _ _ rfl _ _ hr Tryz.underlying65 rfl (iC infoVP HL) ?_)
           | (refine wpList_load_seg rfl 27 _ rfl _ _ rfl _ _ (by assumption) Tryz.underlying27 rfl ?_ ?_; (· first | exact iC infoV HLk | exact iC infoV HLy))
           | (refine wpList_alloc_lay rfl 65 rfl (zV ++ zV) zeroVPg ?_; (intro w1 g hg hB1 hb1; clear hr))
           | (refine wpList_store_all rfl 65 _ _ rfl _ _ rfl rfl (zV ++ zV) (by assumption) ?_ ?_ ?_ ?_; (· exact iC infoVP HL); (· exact HL.out); (· exact H1.out); (intro w2 hB2 hgr; have hb2 := Below.grown hb1 hgr hb1.size (fun _ e => by cases e; exact hg); have r0 := (HBs.out w2 _ hB2).1; clear hb1 hgr hB1 hB2))
           | (go_at_call 16; (with_reducible refine (HC.out _ hb2).mono ?_); rintro e w3 ⟨rfl, hb3⟩; have hb4 := hb2.trans (hb3.mono hb2.size); have hbw := hbel.trans (hb4.mono hsz); have HB3 := Yq (HBr.out.below hb4 HBr.out.lt); clear hb2 hb3 hb4 r0))
          go_roundw
          case rel => exact ⟨k + 1, -1, by omega, by go_num, rfl, ⟨by omega, by omega⟩, Hinv.out.trans Hd.out, hbw, HB3⟩
          case measure => simp [intOf]; omega
        ·have hpn : la = -1 := by omega
         rw [dec_neg hpos, dec_neg hpos] at Hd
         clear hpos
         subst hpn
         go_wp2_with (first
          | (refine wpList_load_seg rfl 65 _ rfl _ _ rfl _ _ hr Tryz.underlying65 rfl (iC infoVP HL) ?_)
          | (refine wpList_alloc_lay rfl 65 rfl (zV ++ zV) zeroVPg ?_; (intro w1 g hg hB1 hb1; clear hr))
          | (refine wpList_store_all rfl 65 _ _ rfl _ _ rfl rfl (zV ++ zV) (by assumption) ?_ ?_ ?_ ?_; (· exact iC infoVP HL); (· exact HL.out); (· exact H1.out); (intro w2 hB2 hgr; have hb2 := Below.grown hb1 hgr hb1.size (fun _ e => by cases e; exact hg); have hbw := hbel.trans (hb2.mono hsz); have HB3 := Yq (HBr.out.below hb2 HBr.out.lt); clear hb1 hgr hB1 hB2 hb2)))
         go_roundw
         case rel => exact ⟨k + 1, -1, by omega, by go_num, rfl, ⟨by omega, by omega⟩, Hinv.out.trans Hd.out, hbw, HB3⟩
         case measure => simp [intOf]; omega
       ·obtain rfl : k = n3 := by omega
        have Hla : Hid (la = grP p (deep - 1) (grL l (deep - 1) (grF f (deep - 1) (left - 1)))) := by show _ = _; rw [Hinv.out, ← Hm3.out, List.drop_length, grP]
        have HB3 := HBr
        have hb3 := hbel
        clear hlt
        go_wp2_with fail
        go_ret
        exact ⟨ret_int Hla.out, hb3⟩
theorem great13_all : ∀ N, Great13At N
 | 0 => fun x xc w left deep hs => absurd hs (by omega)
 | N + 1 => fun x xc w left deep hs hx h0 h1 h2 h3 => great13_at N (great13_all N) x xc w left deep hs hx h0 h1 h2 h3
theorem Great13_any (x : V) (xc : List Value) (w : World) (most : Int) (hx : VR (frag w) x xc) (h0 : 0 ≤ most) (h1 : most ≤ 1000) :
  Calls Tryz.prog 6 #[.agg xc.toArray, .int .i64 most] w fun e w' => e = .returned (.bool (decide (gr x most 30 < 0))) ∧ Below w.heap.size w w' := by
 have HC := Yq (fun (wx : World) (hb : Below w.heap.size w wx) => great13_all _ x xc wx most 30 (Nat.lt_succ_self _) (hx.mono (below_le hb)) h0 h1 (by decide) (by decide))
 have HL := Yq hx.len
 clear hx
 generalize gr x most 30 = r at *
 go_enter Tryz.func6, Tryz.ntmps6
 go_wp2_with (first
  | (refine wpList_box_lay rfl 27 _ rfl _ rfl ?_; (intro w0 g0 hg0 hB0 hb0; have r0 := hB0.whole))
  | (refine wpList_load_seg rfl 27 _ rfl _ _ rfl _ _ r0 Tryz.underlying27 rfl (iC infoV HL) ?_)
  | (go_at_call 16; (with_reducible refine (HC.out _ hb0).mono ?_); rintro e w3 ⟨rfl, hb3⟩; replace hb0 := hb0.trans (hb3.mono hb0.size); clear r0 hb3))
 go_ret
 exact ⟨rfl, hb0⟩
end Go.Proofs.YtebekgdjknenlaaGreatDoor
