/- value.Same, own, bare, walked. value.Right, walked. value.pairs, walked. -/
import Derived.Test.YtlmbcoecipbblaaGreatDoorGpH
import Derived.BigGuardPart
set_option maxRecDepth 100000
set_option maxHeartbeats 4000000
set_option linter.unusedVariables false
set_option linter.unusedSimpArgs false
namespace Go.Proofs.YtlmbcoecipbblaaGreatDoor
open Go.RowKit
open Val (V cmp cmpF cmpL cmpP ocmp orr scmp)
theorem box_agg {t : TypeId} : True := trivial
theorem same_any (x y : V) (xc yc : List Value) (w : World) (hx : VR (frag w) x xc) (hy : VR (frag w) y yc) :
  Calls Tryz.prog 13 #[.agg xc.toArray, .agg yc.toArray] w fun e w' => e = .returned (.bool (decide (cmp x y = 0))) ∧ Below w.heap.size w w' := by
 have HI := Yq (fun (wx : World) (hb : Below w.heap.size w wx) => compare_any x y xc yc wx (hx.mono (below_le hb)) (hy.mono (below_le hb)))
 obtain ⟨xk, xn, xt, xr, xa1, xn1, xc1, xa2, xn2, xc2, xa3, xn3, xc3, rfl⟩ := hx.shape
 obtain ⟨yk, yn, yt, yr, ya1, yn1, yc1, ya2, yn2, yc2, ya3, yn3, yc3, rfl⟩ := hy.shape
 clear hx hy
 have hb0 := Yq ((Below.alloc (Below.alloc (Below.refl w.heap.size w) (Nat.le_refl _) (.cells #[.int .i64 xk, .int .u64 xn, .string xt, .slice xa1 xn1 xc1, .string xr, .slice xa2 xn2 xc2, .slice xa3 xn3 xc3] 27)) (by simp) (.cells #[.int .i64 yk, .int .u64 yn, .string yt, .slice ya1 yn1 yc1, .string yr, .slice ya2 yn2 yc2, .slice ya3 yn3 yc3] 27)))
 go_enter Tryz.func13, Tryz.ntmps13
 go_wp2_with fail
 refine (HI.out _ hb0.out).mono ?_
 rintro e w' ⟨rfl, hb⟩
 go_wp2_with fail
 go_ret
 refine ⟨ret_bool ?_, hb0.out.trans (hb.mono hb0.out.size)⟩
 rfl
def ownN (k n : Int) : Int := if k = 1 then 0 else n
def ownT (j k : Int) (t : ByteArray) : ByteArray := if k = j then ⟨#[]⟩ else t
def ownS (j k : Int) (v : Value) : Value := if k = j then .slice none 0 0 else v
theorem own_any (k n : Int) (t r : ByteArray) (a1 : Option Addr) (n1 c1 : Nat) (a2 : Option Addr) (n2 c2 : Nat) (a3 : Option Addr) (n3 c3 : Nat) (w : World) :
  Calls Tryz.prog 68 #[.agg #[.int .i64 k, .int .u64 n, .string t, .slice a1 n1 c1, .string r, .slice a2 n2 c2, .slice a3 n3 c3]] w fun e w' =>
   e = .returned (.agg #[.int .i64 k, .int .u64 (ownN k n), .string (ownT 2 k t), ownS 3 k (.slice a1 n1 c1), .string (ownT 3 k r), ownS 4 k (.slice a2 n2 c2), ownS 5 k (.slice a3 n3 c3)]) ∧ Below w.heap.size w w' := by
 by_cases h1 : k = 1
 ·subst h1
  go_enter Tryz.func68, Tryz.ntmps68
  go_wp2_with fail
  exact bodyPost_ret (v := .agg #[.int .i64 1, .int .u64 0, .string t, .slice a1 n1 c1, .string r, .slice a2 n2 c2, .slice a3 n3 c3]) (by simp [results, Tryz.results68, go_sem]) rfl ⟨rfl, ((Below.refl _ _).alloc (Nat.le_refl _) _).alloc (by simp) _⟩
 ·skip
  by_cases h2 : k = 2
  ·subst h2
   go_enter Tryz.func68, Tryz.ntmps68
   go_wp2_with fail
   exact bodyPost_ret (v := .agg #[.int .i64 2, .int .u64 n, .string ⟨#[]⟩, .slice a1 n1 c1, .string r, .slice a2 n2 c2, .slice a3 n3 c3]) (by simp [results, Tryz.results68, go_sem]) rfl ⟨rfl, ((Below.refl _ _).alloc (Nat.le_refl _) _).alloc (by simp) _⟩
  ·skip
   by_cases h3 : k = 3
   ·subst h3
    go_enter Tryz.func68, Tryz.ntmps68
    go_wp2_with fail
    exact bodyPost_ret (v := .agg #[.int .i64 3, .int .u64 n, .string t, .slice none 0 0, .string ⟨#[]⟩, .slice a2 n2 c2, .slice a3 n3 c3]) (by simp [results, Tryz.results68, go_sem]) rfl ⟨rfl, ((Below.refl _ _).alloc (Nat.le_refl _) _).alloc (by simp) _⟩
   ·skip
    by_cases h4 : k = 4
    ·subst h4
     go_enter Tryz.func68, Tryz.ntmps68
     go_wp2_with fail
     exact bodyPost_ret (v := .agg #[.int .i64 4, .int .u64 n, .string t, .slice a1 n1 c1, .string r, .slice none 0 0, .slice a3 n3 c3]) (by simp [results, Tryz.results68, go_sem]) rfl ⟨rfl, ((Below.refl _ _).alloc (Nat.le_refl _) _).alloc (by simp) _⟩
    ·skip
     by_cases h5 : k = 5
     ·subst h5
      go_enter Tryz.func68, Tryz.ntmps68
      go_wp2_with fail
      exact bodyPost_ret (v := .agg #[.int .i64 5, .int .u64 n, .string t, .slice a1 n1 c1, .string r, .slice a2 n2 c2, .slice none 0 0]) (by simp [results, Tryz.results68, go_sem]) rfl ⟨rfl, ((Below.refl _ _).alloc (Nat.le_refl _) _).alloc (by simp) _⟩
     ·skip
      have H1 := Yq h1
      have e1 : (k == 1) = false := by simpa using h1
      have H2 := Yq h2
      have e2 : (k == 2) = false := by simpa using h2
      have H3 := Yq h3
      have e3 : (k == 3) = false := by simpa using h3
      have H4 := Yq h4
      have e4 : (k == 4) = false := by simpa using h4
      have H5 := Yq h5
      have e5 : (k == 5) = false := by simpa using h5
      clear h1 h2 h3 h4 h5
      go_enter Tryz.func68, Tryz.ntmps68
      go_wp2_with fail
      exact bodyPost_ret (v := .agg #[.int .i64 k, .int .u64 n, .string t, .slice a1 n1 c1, .string r, .slice a2 n2 c2, .slice a3 n3 c3]) (by simp [results, Tryz.results68, go_sem]) rfl ⟨by simp [ownN, ownT, ownS, H1.out, H2.out, H3.out, H4.out, H5.out], ((Below.refl _ _).alloc (Nat.le_refl _) _).alloc (by simp) _⟩
def bareB (k n : Int) (t : ByteArray) (nf : Nat) (r : ByteArray) (nl np : Nat) : Bool :=
 decide (ownN k n = 0) && (decide ((ownT 2 k t).size = 0) && (decide (k = 3 ∨ nf = 0) && (decide ((ownT 3 k r).size = 0) && (decide (k = 4 ∨ nl = 0) && decide (k = 5 ∨ np = 0)))))
theorem ownS_slice (j k : Int) (a : Option Addr) (n c : Nat) : ∃ a' n' c', ownS j k (.slice a n c) = .slice a' n' c' ∧ (n' = 0 ↔ k = j ∨ n = 0) := by
 unfold ownS
 by_cases h : k = j
 ·rw [if_pos h]; exact ⟨_, _, _, rfl, by simp [h]⟩
 ·rw [if_neg h]; exact ⟨_, _, _, rfl, by simp [h]⟩
theorem bare_any (k n : Int) (t r : ByteArray) (a1 : Option Addr) (n1 c1 : Nat) (a2 : Option Addr) (n2 c2 : Nat) (a3 : Option Addr) (n3 c3 : Nat) (w : World) :
  Calls Tryz.prog 43 #[.agg #[.int .i64 k, .int .u64 n, .string t, .slice a1 n1 c1, .string r, .slice a2 n2 c2, .slice a3 n3 c3]] w fun e w' =>
   e = .returned (.bool (bareB k n t n1 r n2 n3)) ∧ Below w.heap.size w w' := by
 have HO := Yq (fun wx => own_any k n t r a1 n1 c1 a2 n2 c2 a3 n3 c3 wx)
 obtain ⟨b1, m1, d1, e1, q1⟩ := ownS_slice 3 k a1 n1 c1
 obtain ⟨b2, m2, d2, e2, q2⟩ := ownS_slice 4 k a2 n2 c2
 obtain ⟨b3, m3, d3, e3, q3⟩ := ownS_slice 5 k a3 n3 c3
 rw [e1, e2, e3] at HO
 have hB : bareB k n t n1 r n2 n3 = (decide (ownN k n = 0) && (decide ((ownT 2 k t).size = 0) && (decide (m1 = 0) && (decide ((ownT 3 k r).size = 0) && (decide (m2 = 0) && decide (m3 = 0)))))) := by
  unfold bareB
  rw [decide_eq_decide.2 q1, decide_eq_decide.2 q2, decide_eq_decide.2 q3]
 rw [hB]
 clear e1 e2 e3 q1 q2 q3 hB
 generalize ownN k n = n' at *
 generalize ownT 2 k t = t' at *
 generalize ownT 3 k r = r' at *
 by_cases t0 : n' = 0
 rotate_left
 ·have Ht0 := Yq t0
  have bt0 : (n' == 0) = false := by simpa using t0
  clear t0
  go_enter Tryz.func43, Tryz.ntmps43
  go_wp2_with fail
  refine (HO.out _).mono ?_
  rintro e w1 ⟨rfl, hb⟩
  have hbw := Yq (((Below.refl w.heap.size w).alloc (Nat.le_refl _) _).trans (hb.mono (by simp)))
  clear hb
  go_wp2_with fail
  go_ret
  exact ⟨ret_bool (by simp [Ht0.out]), hbw.out.alloc hbw.out.size _⟩
 subst t0
 by_cases t1 : t'.size = 0
 rotate_left
 ·have Ht1 := Yq t1
  have bt1 : t'.toList.isEmpty = false := isEmpty_no t1
  have ct1 : t'.toList ≠ [] := by intro h; rw [h] at bt1; simp at bt1
  clear t1
  go_enter Tryz.func43, Tryz.ntmps43
  go_wp2_with fail
  refine (HO.out _).mono ?_
  rintro e w1 ⟨rfl, hb⟩
  have hbw := Yq (((Below.refl w.heap.size w).alloc (Nat.le_refl _) _).trans (hb.mono (by simp)))
  clear hb
  go_wp2_with fail
  go_ret
  exact ⟨ret_bool (by simp [Ht1.out]), hbw.out.alloc hbw.out.size _⟩
 have bt1 : t'.toList.isEmpty = true := isEmpty_yes t1
 have ct1 : t'.toList = [] := by simpa using bt1
 have Ht1 := Yq t1
 clear t1
 by_cases t2 : m1 = 0
 rotate_left
 ·have Ht2 := Yq t2
  have bt2 : (((m1 : Nat) : Int) == 0) = false := by simp; omega
  clear t2
  go_enter Tryz.func43, Tryz.ntmps43
  go_wp2_with fail
  refine (HO.out _).mono ?_
  rintro e w1 ⟨rfl, hb⟩
  have hbw := Yq (((Below.refl w.heap.size w).alloc (Nat.le_refl _) _).trans (hb.mono (by simp)))
  clear hb
  go_wp2_with fail
  go_ret
  exact ⟨ret_bool (by simp [Ht2.out]), hbw.out.alloc hbw.out.size _⟩
 subst t2
 by_cases t3 : r'.size = 0
 rotate_left
 ·have Ht3 := Yq t3
  have bt3 : r'.toList.isEmpty = false := isEmpty_no t3
  have ct3 : r'.toList ≠ [] := by intro h; rw [h] at bt3; simp at bt3
  clear t3
  go_enter Tryz.func43, Tryz.ntmps43
  go_wp2_with fail
  refine (HO.out _).mono ?_
  rintro e w1 ⟨rfl, hb⟩
  have hbw := Yq (((Below.refl w.heap.size w).alloc (Nat.le_refl _) _).trans (hb.mono (by simp)))
  clear hb
  go_wp2_with fail
  go_ret
  exact ⟨ret_bool (by simp [Ht3.out]), hbw.out.alloc hbw.out.size _⟩
 have bt3 : r'.toList.isEmpty = true := isEmpty_yes t3
 have ct3 : r'.toList = [] := by simpa using bt3
 have Ht3 := Yq t3
 clear t3
 by_cases t4 : m2 = 0
 rotate_left
 ·have Ht4 := Yq t4
  have bt4 : (((m2 : Nat) : Int) == 0) = false := by simp; omega
  clear t4
  go_enter Tryz.func43, Tryz.ntmps43
  go_wp2_with fail
  refine (HO.out _).mono ?_
  rintro e w1 ⟨rfl, hb⟩
  have hbw := Yq (((Below.refl w.heap.size w).alloc (Nat.le_refl _) _).trans (hb.mono (by simp)))
  clear hb
  go_wp2_with fail
  go_ret
  exact ⟨ret_bool (by simp [Ht4.out]), hbw.out.alloc hbw.out.size _⟩
 subst t4
 by_cases t5 : m3 = 0
 rotate_left
 ·have Ht5 := Yq t5
  have bt5 : (((m3 : Nat) : Int) == 0) = false := by simp; omega
  clear t5
  go_enter Tryz.func43, Tryz.ntmps43
  go_wp2_with fail
  refine (HO.out _).mono ?_
  rintro e w1 ⟨rfl, hb⟩
  have hbw := Yq (((Below.refl w.heap.size w).alloc (Nat.le_refl _) _).trans (hb.mono (by simp)))
  clear hb
  go_wp2_with fail
  go_ret
  exact ⟨ret_bool (by simp [Ht5.out]), hbw.out.alloc hbw.out.size _⟩
 subst t5
 go_enter Tryz.func43, Tryz.ntmps43
 go_wp2_with fail
 refine (HO.out _).mono ?_
 rintro e w1 ⟨rfl, hb⟩
 have hbw := Yq (((Below.refl w.heap.size w).alloc (Nat.le_refl _) _).trans (hb.mono (by simp)))
 clear hb
 go_wp2_with fail
 go_ret
 exact ⟨ret_bool (by simp [Ht1.out, Ht3.out]), hbw.out.alloc hbw.out.size _⟩
open Val (V cmp right rightF rightL rightP bareV partB lastF lastP)
theorem VR.shapeK {h : Frag} {x : V} {cs : List Value} (hv : VR h x cs) : ∃ (n : Int) (t r : ByteArray) (a1 : Option Addr) (n1 c1 : Nat) (a2 : Option Addr) (n2 c2 : Nat) (a3 : Option Addr) (n3 c3 : Nat),
  cs = [.int .i64 x.kind, .int .u64 n, .string t, .slice a1 n1 c1, .string r, .slice a2 n2 c2, .slice a3 n3 c3] := by
 cases x
 rw [VR] at hv
 obtain ⟨fv, lv, pv, fe, le, pe, rfl, _, ⟨h1, h2, h3⟩, _⟩ := hv
 obtain ⟨a1, c1, rfl, _⟩ := h1.len
 obtain ⟨a2, c2, rfl, _⟩ := h2.len
 obtain ⟨a3, c3, rfl, _⟩ := h3.len
 exact ⟨_, _, _, _, _, _, _, _, _, _, _, _, rfl⟩
theorem bareB_eq (k n : Int) (t r : ByteArray) (nf nl np : Nat) : bareB k n t nf r nl np = bareV k n t nf r nl np := by
 have h1 : (ownN k n = 0) ↔ (k = 1 ∨ n = 0) := by unfold ownN; split <;> simp [*]
 have h2 : ((ownT 2 k t).size = 0) ↔ (k = 2 ∨ t.size = 0) := by
  unfold ownT; by_cases h : k = 2
  ·rw [if_pos h]; exact ⟨fun _ => .inl h, fun _ => rfl⟩
  ·rw [if_neg h]; exact ⟨.inr, fun e => e.resolve_left h⟩
 have h3 : ((ownT 3 k r).size = 0) ↔ (k = 3 ∨ r.size = 0) := by
  unfold ownT; by_cases h : k = 3
  ·rw [if_pos h]; exact ⟨fun _ => .inl h, fun _ => rfl⟩
  ·rw [if_neg h]; exact ⟨.inr, fun e => e.resolve_left h⟩
 unfold bareB bareV
 simp only [h1, h2, h3, ← Bool.decide_and]
def RightAt (N : Nat) : Prop := ∀ (x : V) (xc : List Value) (w : World), SizeOf.sizeOf x < N → VR (frag w) x xc →
 Calls Tryz.prog 21 #[.agg xc.toArray] w fun e w' => e = .returned (.bool (right x)) ∧ Below w.heap.size w w'
theorem part_at (N : Nat) (ih : RightAt N) (x : V) (xc : List Value) (w : World) (hs : SizeOf.sizeOf x < N) (hx : VR (frag w) x xc) :
  Calls Tryz.prog 47 #[.agg xc.toArray] w fun e w' => e = .returned (.bool (partB x)) ∧ Below w.heap.size w w' := by
 have HI := Yq (fun (wx : World) (hb : Below w.heap.size w wx) => ih x xc wx hs (hx.mono (below_le hb)))
 have hP : partB x = (decide (1 ≤ x.kind ∧ x.kind ≤ 3) && right x) := rfl
 rw [hP]
 obtain ⟨xn, xt, xr, xa1, xn1, xc1, xa2, xn2, xc2, xa3, xn3, xc3, rfl⟩ := hx.shapeK
 clear hx ih hP
 generalize x.kind = k at *
 have hb0 := Yq ((Below.refl w.heap.size w).alloc (Nat.le_refl _) (.cells #[.int .i64 k, .int .u64 xn, .string xt, .slice xa1 xn1 xc1, .string xr, .slice xa2 xn2 xc2, .slice xa3 xn3 xc3] 27))
 by_cases h1 : 1 ≤ k
 ·by_cases h3 : k ≤ 3
  ·go_enter Tryz.func47, Tryz.ntmps47
   go_wp2_with fail
   refine (HI.out _ hb0.out).mono ?_
   rintro e w' ⟨rfl, hb⟩
   go_wp2_with fail
   go_ret
   exact ⟨ret_bool (by rw [decide_eq_true (show 1 ≤ k ∧ k ≤ 3 from ⟨by omega, by omega⟩)]; simp), hb0.out.trans (hb.mono hb0.out.size)⟩
  ·have h3' : decide (k ≤ 3) = false := by simpa using h3
   go_enter Tryz.func47, Tryz.ntmps47
   go_wp2_with fail
   go_ret
   exact ⟨ret_bool (by first | rfl | (rw [decide_eq_false (by omega)]; simp)), hb0.out⟩
 ·have h1' : decide (1 ≤ k) = false := by simpa using h1
  go_enter Tryz.func47, Tryz.ntmps47
  go_wp2_with fail
  go_ret
  exact ⟨ret_bool (by first | rfl | (rw [decide_eq_false (by omega)]; simp)), hb0.out⟩
theorem right1_at (N : Nat) (ih : RightAt N) (x : V) (xc : List Value) (w : World) (hs : SizeOf.sizeOf x < N) (hx : VR (frag w) x xc) :
  Calls Tryz.prog 46 #[.agg xc.toArray] w fun e w' => e = .returned (.bool (!partB x)) ∧ Below w.heap.size w w' := by
 have HI := Yq (fun (wx : World) (hb : Below w.heap.size w wx) => part_at N ih x xc wx hs (hx.mono (below_le hb)))
 obtain ⟨xk, xn, xt, xr, xa1, xn1, xc1, xa2, xn2, xc2, xa3, xn3, xc3, rfl⟩ := hx.shape
 clear hx ih
 generalize partB x = p at *
 have hb0 := Yq ((Below.refl w.heap.size w).alloc (Nat.le_refl _) (.cells #[.int .i64 xk, .int .u64 xn, .string xt, .slice xa1 xn1 xc1, .string xr, .slice xa2 xn2 xc2, .slice xa3 xn3 xc3] 27))
 go_enter Tryz.func46, Tryz.ntmps46
 go_wp2_with fail
 refine (HI.out _ hb0.out).mono ?_
 rintro e w' ⟨rfl, hb⟩
 go_wp2_with fail
 go_ret
 exact ⟨rfl, hb0.out.trans (hb.mono hb0.out.size)⟩
theorem fields_at (N : Nat) (ih : RightAt N) (fs : List (Int × V)) (fe : List (List Value)) (v : Value) (w : World) (hs : ∀ e ∈ fs, SizeOf.sizeOf e.2 < N) (hv : FlatC 8 (frag w) v fe) (hf : FsR (frag w) fs fe) :
  Calls Tryz.prog 44 #[v] w fun e w' => e = .returned (.bool (rightF 0 fs)) ∧ Below w.heap.size w w' := by
 obtain ⟨a, cap, rfl, hc1, hc2, _⟩ := hv.len
 have HX := Yq hv; have HF := Yq hf; have HS := Yq hs
 have hlen := hf.len
 unfold maxLen at hc2
 clear hv hf hs
 obtain ⟨n, hn⟩ : ∃ n, n = fe.length := ⟨_, rfl⟩
 rw [← hn] at HX hc1 hlen ⊢
 have Hn := Yq hn.symm; have Hm := Yq hlen.symm; clear hn hlen
 go_enter Tryz.func44, Tryz.ntmps44
 go_wp2_with fail
 go_loopw [3, 8] (fun l i wr => ∃ k : Nat, k ≤ n ∧ i = .int .i64 k ∧ l = .int .i64 (lastF fs k) ∧ Hid (rightF 0 fs = rightF (lastF fs k) (fs.drop k)) ∧ Below w.heap.size w wr) (fun _ i _ => n - (intOf i).toNat)
 case atStart => exact ⟨0, Nat.zero_le _, rfl, rfl, (by show _ = _; simp [lastF]), Below.refl _ _⟩
 case round =>
  obtain ⟨k, hk, rfl, rfl, Hinv, hbel⟩ := hrel
  have hsz := hbel.size
  by_cases hlt : k < n
  ·have hks : k < fe.length := by rw [Hn.out]; exact hlt
   have hkf : k < fs.length := by rw [Hm.out]; exact hlt
   obtain ⟨b0, o0, hb0, hidx, hcell⟩ := FlatC.at (n := n) (cap := cap) (a := a) HX.out (by decide) (i := k) hks Tryz.underlying23 sizeFld
   obtain ⟨xc, hx, rx⟩ := HF.out.at hkf hks
   have HI := Yq (fun (wx : World) (hb : Below wr.heap.size wr wx) => ih fs[k].2 xc wx (HS.out _ (List.getElem_mem _)) (rx.mono ((below_le hbel).trans (below_le hb))))
   obtain ⟨xn, xt, xr, xa1, xn1, xc1, xa2, xn2, xc2, xa3, xn3, xc3, rfl⟩ := rx.shapeK
   rw [hx] at hcell
   have c0 := (hbel.cell (p := ⟨b0, o0 + 0, none⟩) hb0).trans (hcell 0 _ rfl)
   have c1 := (hbel.cell (p := ⟨b0, o0 + 1, none⟩) hb0).trans (hcell 1 _ rfl)
   have c2 := (hbel.cell (p := ⟨b0, o0 + 2, none⟩) hb0).trans (hcell 2 _ rfl)
   have c3 := (hbel.cell (p := ⟨b0, o0 + 3, none⟩) hb0).trans (hcell 3 _ rfl)
   have c4 := (hbel.cell (p := ⟨b0, o0 + 4, none⟩) hb0).trans (hcell 4 _ rfl)
   have c5 := (hbel.cell (p := ⟨b0, o0 + 5, none⟩) hb0).trans (hcell 5 _ rfl)
   have c6 := (hbel.cell (p := ⟨b0, o0 + 6, none⟩) hb0).trans (hcell 6 _ rfl)
   have c7 := (hbel.cell (p := ⟨b0, o0 + 7, none⟩) hb0).trans (hcell 7 _ rfl)
   rw [Nat.add_zero] at c0
   have Hd := Yq (Val.rightF_drop (m := lastF fs k) hkf)
   have Hl := Yq (Val.lastF_succ hkf)
   clear hcell hx rx
   generalize fs[k].1 = m at *
   generalize fs[k].2.kind = xk at *
   generalize right fs[k].2 = rt at *
   generalize lastF fs k = la at *
   have hb1 := Yq (hbel.alloc hsz (.cells #[.int .i64 m, .int .i64 xk, .int .u64 xn, .string xt, .slice xa1 xn1 xc1, .string xr, .slice xa2 xn2 xc2, .slice xa3 xn3 xc3] 93))
   have hb2 := Yq ((Below.refl wr.heap.size wr).alloc (Nat.le_refl _) (.cells #[.int .i64 m, .int .i64 xk, .int .u64 xn, .string xt, .slice xa1 xn1 xc1, .string xr, .slice xa2 xn2 xc2, .slice xa3 xn3 xc3] 93))
   by_cases t1 : m ≤ la
   ·go_wp2_with fail
    go_ret
    exact ⟨ret_bool (by rw [Hinv.out, Hd.out, decide_eq_false (by omega)]; simp), hb1.out⟩
   ·have b1 : decide (m ≤ la) = false := by simpa using t1
    by_cases t2 : m > 536870911
    ·go_wp2_with fail
     go_ret
     exact ⟨ret_bool (by rw [Hinv.out, Hd.out, decide_eq_false (by omega)]; simp), hb1.out⟩
    ·have b2 : decide (m > 536870911) = false := by simpa using t2
     by_cases t3 : xk = 0
     ·have b3 : (xk == 0) = true := by simpa using t3
      have T3 := Yq t3; clear t3
      go_wp2_with fail
      go_ret
      exact ⟨ret_bool (by rw [Hinv.out, Hd.out, decide_eq_false (by have := T3.out; omega)]; simp), hb1.out⟩
     ·have b3 : (xk == 0) = false := by simpa using t3
      have ok : Hid (decide (la < m ∧ m ≤ 536870911 ∧ xk ≠ 0) = true) := decide_eq_true ⟨by omega, by omega, t3⟩
      clear t3
      cases rt with
      | false =>
       go_wp2_with fail
       refine (HI.out _ hb2.out).mono ?_
       rintro e w' ⟨rfl, hb⟩
       go_wp2_with fail
       go_ret
       exact ⟨ret_bool (by rw [Hinv.out, Hd.out]; simp), hb1.out.trans (hb.mono hb1.out.size)⟩
      | true =>
       go_wp2_with fail
       refine (HI.out _ hb2.out).mono ?_
       rintro e w' ⟨rfl, hb⟩
       have hc := (hb.cell (p := ⟨wr.heap.size, 0, none⟩) (by simp)).trans (World.cell?_alloc_at _ _ _ _ rfl)
       simp only [List.getElem?_toArray, List.getElem?_cons_zero] at hc
       go_wp2_with fail
       go_roundw
       case rel => exact ⟨k + 1, by omega, by simp, by rw [Hl.out], (by show _ = _; rw [Hinv.out, Hd.out, ok.out, Hl.out]; simp), hb1.out.trans (hb.mono hb1.out.size)⟩
       case measure => simp [intOf]; omega
  ·obtain rfl : k = n := by omega
   go_wp2_with fail
   go_ret
   exact ⟨ret_bool (by rw [Hinv.out, ← Hm.out, List.drop_length, rightF]), hbel⟩
theorem indexfunc_any (es : List (List Value)) (p : Nat → Bool) (v : Value) (g : Nat) (w : World) (hv : FlatC 7 (frag w) v es) (hse : ∀ e ∈ es, Val7 e)
  (hg : ∀ args wx, (callFunc g args).run Tryz.prog wx = .ok (.enter g args) wx)
  (hc : ∀ (i : Nat) (h1 : i < es.length) (wx : World), Below w.heap.size w wx → Calls Tryz.prog g #[.agg es[i].toArray] wx fun e w' => e = .returned (.bool (p i)) ∧ Below wx.heap.size wx w') :
  Calls Tryz.prog 69 #[v, .func (.func g) #[] #[]] w fun e w' => (∃ z : Int, e = .returned (.int .i64 z) ∧ ((List.range es.length).any p = decide (0 ≤ z))) ∧ Below w.heap.size w w' := by
 obtain ⟨a, cap, rfl, hc1, hc2, _⟩ := hv.len
 have HX := Yq hv; have HC := Yq hc; have HSE := Yq hse
 unfold maxLen at hc2
 clear hv hc hse
 obtain ⟨n, hn⟩ : ∃ n, n = es.length := ⟨_, rfl⟩
 rw [← hn] at HX hc1 ⊢
 have Hn := Yq hn.symm; clear hn
 have Hyes : Hid (∀ k, k < n → p k = true → (List.range n).any p = true) := fun k hk hp => List.any_eq_true.2 ⟨k, by simpa using hk, hp⟩
 have Hno : Hid ((∀ k, k < n → p k = false) → (List.range n).any p = false) := fun h => by
  rw [Bool.eq_false_iff]; intro h2
  obtain ⟨x, hx, hp⟩ := List.any_eq_true.1 h2
  rw [h x (by simpa using hx)] at hp; cases hp
 generalize (List.range n).any p = ans at *
 go_enter Tryz.func69, Tryz.ntmps69
 go_wp2_with fail
 go_loopw [8] (fun i wr => ∃ k : Nat, k ≤ n ∧ i = .int .i64 k ∧ Hid (∀ j, j < k → p j = false) ∧ Below w.heap.size w wr) (fun i _ => n - (intOf i).toNat)
 case atStart => exact ⟨0, Nat.zero_le _, rfl, fun j h => by omega, Below.refl _ _⟩
 case round =>
  obtain ⟨k, hk, rfl, Hall, hbel⟩ := hrel
  have hsz := hbel.size
  by_cases hlt : k < n
  ·have hks : k < es.length := by rw [Hn.out]; exact hlt
   obtain ⟨b0, o0, hb0, hidx, hcell⟩ := FlatC.at (n := n) (cap := cap) (a := a) HX.out (by decide) (i := k) hks Tryz.underlying24 sizeVal
   obtain ⟨xk, xn, xt, xr, xa1, xn1, xc1, xa2, xn2, xc2, xa3, xn3, xc3, hx⟩ := HSE.out es[k] (List.getElem_mem _)
   rw [hx] at hcell
   have c0 := (hbel.cell (p := ⟨b0, o0 + 0, none⟩) hb0).trans (hcell 0 _ rfl)
   have c1 := (hbel.cell (p := ⟨b0, o0 + 1, none⟩) hb0).trans (hcell 1 _ rfl)
   have c2 := (hbel.cell (p := ⟨b0, o0 + 2, none⟩) hb0).trans (hcell 2 _ rfl)
   have c3 := (hbel.cell (p := ⟨b0, o0 + 3, none⟩) hb0).trans (hcell 3 _ rfl)
   have c4 := (hbel.cell (p := ⟨b0, o0 + 4, none⟩) hb0).trans (hcell 4 _ rfl)
   have c5 := (hbel.cell (p := ⟨b0, o0 + 5, none⟩) hb0).trans (hcell 5 _ rfl)
   have c6 := (hbel.cell (p := ⟨b0, o0 + 6, none⟩) hb0).trans (hcell 6 _ rfl)
   rw [Nat.add_zero] at c0
   have hcall := HC.out k hks _ hbel
   rw [hx] at hcall
   have Hcall := Yq hcall
   clear hcell hx hcall
   cases hp : p k with
   | true =>
    have HP := Yq hp
    rw [hp] at Hcall
    clear hp
    go_wp2_with fail
    go_at_fn g
    refine Hcall.out.mono ?_
    rintro e w' ⟨rfl, hb⟩
    go_wp2_with fail
    go_ret
    exact ⟨⟨k, rfl, by rw [Hyes.out k hlt HP.out, decide_eq_true (by omega)]⟩, hbel.trans (hb.mono hsz)⟩
   | false =>
    have HP := Yq hp
    rw [hp] at Hcall
    clear hp
    go_wp2_with fail
    go_at_fn g
    refine Hcall.out.mono ?_
    rintro e w' ⟨rfl, hb⟩
    go_wp2_with fail
    go_roundw
    case rel =>
     refine ⟨k + 1, hlt, by simp, fun j hj => ?_, hbel.trans (hb.mono hsz)⟩
     by_cases e : j = k
     ·subst e; exact HP.out
     ·exact Hall.out j (by omega)
    case measure => simp [intOf]; omega
  ·obtain rfl : k = n := by omega
   go_wp2_with fail
   go_ret
   exact ⟨⟨-1, rfl, by rw [Hno.out Hall.out]; rfl⟩, hbel⟩
theorem containsfunc_any (es : List (List Value)) (p : Nat → Bool) (v : Value) (g : Nat) (w : World) (hv : FlatC 7 (frag w) v es) (hse : ∀ e ∈ es, Val7 e)
  (hg : ∀ args wx, (callFunc g args).run Tryz.prog wx = .ok (.enter g args) wx)
  (hc : ∀ (i : Nat) (h1 : i < es.length) (wx : World), Below w.heap.size w wx → Calls Tryz.prog g #[.agg es[i].toArray] wx fun e w' => e = .returned (.bool (p i)) ∧ Below wx.heap.size wx w') :
  Calls Tryz.prog 45 #[v, .func (.func g) #[] #[]] w fun e w' => e = .returned (.bool ((List.range es.length).any p)) ∧ Below w.heap.size w w' := by
 have HI := Yq (indexfunc_any es p v g w hv hse hg hc)
 obtain ⟨a, cap, rfl, hc1, hc2, _⟩ := hv.len
 clear hv hc hse hg
 generalize (List.range es.length).any p = ans at *
 go_enter Tryz.func45, Tryz.ntmps45
 go_wp2_with fail
 refine HI.out.mono ?_
 rintro e w' ⟨⟨z, rfl, hz⟩, hb⟩
 have Hz := Yq hz; clear hz
 go_wp2_with fail
 go_ret
 exact ⟨ret_bool (by rw [Hz.out]), hb⟩
theorem pairs_at (N : Nat) (ih : RightAt N) (ps : List (V × V)) (pe : List (List Value)) (v : Value) (w : World) (hs : ∀ e ∈ ps, SizeOf.sizeOf e.1 < N ∧ SizeOf.sizeOf e.2 < N) (hv : FlatC 14 (frag w) v pe) (hf : PsR (frag w) ps pe) :
  Calls Tryz.prog 48 #[v] w fun e w' => e = .returned (.bool (decide (0 < ps.length) && rightP none ps)) ∧ Below w.heap.size w w' := by
 obtain ⟨a, cap, rfl, hc1, hc2, _⟩ := hv.len
 have HX := Yq hv; have HF := Yq hf; have HS := Yq hs
 have hlen := hf.len
 unfold maxLen at hc2
 clear hv hf hs
 obtain ⟨n, hn⟩ : ∃ n, n = pe.length := ⟨_, rfl⟩
 rw [← hn] at HX hc1 hlen ⊢
 have Hn := Yq hn.symm; have Hm := Yq hlen.symm; clear hn
 rw [← hlen]
 clear hlen
 have Hfalse : Hid (rightP none ps = false → (decide (0 < n) && rightP none ps) = false) := by
  show _ → _
  intro h; rw [h]; simp
 go_enter Tryz.func48, Tryz.ntmps48
 go_wp2_with fail
 go_loopw [7] (fun i wr => ∃ k : Nat, k ≤ n ∧ i = .int .i64 k ∧ Hid (rightP none ps = rightP (lastP ps k) (ps.drop k)) ∧ Below w.heap.size w wr) (fun i _ => n - (intOf i).toNat)
 case atStart => exact ⟨0, Nat.zero_le _, rfl, (by show _ = _; simp [lastP]), Below.refl _ _⟩
 case round =>
  obtain ⟨k, hk, rfl, Hinv, hbel⟩ := hrel
  have hsz := hbel.size
  by_cases hlt : k < n
  ·have hks : k < pe.length := by rw [Hn.out]; exact hlt
   have hkf : k < ps.length := by rw [Hm.out]; exact hlt
   obtain ⟨b0, o0, hb0, hidx, hcell⟩ := FlatC.at (n := n) (cap := cap) (a := a) HX.out (by decide) (i := k) hks Tryz.underlying25 sizePar
   obtain ⟨kc, xc, hx, rk, rx⟩ := HF.out.at hkf hks
   have HIk := Yq (fun (wx : World) (hb : Below wr.heap.size wr wx) => part_at N ih ps[k].1 kc wx (HS.out _ (List.getElem_mem _)).1 (rk.mono ((below_le hbel).trans (below_le hb))))
   have HIx := Yq (fun (wx : World) (hb : Below wr.heap.size wr wx) => part_at N ih ps[k].2 xc wx (HS.out _ (List.getElem_mem _)).2 (rx.mono ((below_le hbel).trans (below_le hb))))
   have Hrk := Yq rk
   obtain ⟨xn, xt, xr, xa1, xn1, xc1, xa2, xn2, xc2, xa3, xn3, xc3, rfl⟩ := rk.shapeK
   obtain ⟨yn, yt, yr, ya1, yn1, yc1, ya2, yn2, yc2, ya3, yn3, yc3, rfl⟩ := rx.shapeK
   rw [hx] at hcell
   have c0 := (hbel.cell (p := ⟨b0, o0 + 0, none⟩) hb0).trans (hcell 0 _ rfl)
   have c1 := (hbel.cell (p := ⟨b0, o0 + 1, none⟩) hb0).trans (hcell 1 _ rfl)
   have c2 := (hbel.cell (p := ⟨b0, o0 + 2, none⟩) hb0).trans (hcell 2 _ rfl)
   have c3 := (hbel.cell (p := ⟨b0, o0 + 3, none⟩) hb0).trans (hcell 3 _ rfl)
   have c4 := (hbel.cell (p := ⟨b0, o0 + 4, none⟩) hb0).trans (hcell 4 _ rfl)
   have c5 := (hbel.cell (p := ⟨b0, o0 + 5, none⟩) hb0).trans (hcell 5 _ rfl)
   have c6 := (hbel.cell (p := ⟨b0, o0 + 6, none⟩) hb0).trans (hcell 6 _ rfl)
   have c7 := (hbel.cell (p := ⟨b0, o0 + 7, none⟩) hb0).trans (hcell 7 _ rfl)
   have c8 := (hbel.cell (p := ⟨b0, o0 + 8, none⟩) hb0).trans (hcell 8 _ rfl)
   have c9 := (hbel.cell (p := ⟨b0, o0 + 9, none⟩) hb0).trans (hcell 9 _ rfl)
   have c10 := (hbel.cell (p := ⟨b0, o0 + 10, none⟩) hb0).trans (hcell 10 _ rfl)
   have c11 := (hbel.cell (p := ⟨b0, o0 + 11, none⟩) hb0).trans (hcell 11 _ rfl)
   have c12 := (hbel.cell (p := ⟨b0, o0 + 12, none⟩) hb0).trans (hcell 12 _ rfl)
   have c13 := (hbel.cell (p := ⟨b0, o0 + 13, none⟩) hb0).trans (hcell 13 _ rfl)
   rw [Nat.add_zero] at c0
   have Hd := Yq (Val.rightP_drop (m := lastP ps k) hkf)
   have Hl := Yq (Val.lastP_succ hkf)
   have hpk : partB ps[k].1 = (decide (1 ≤ ps[k].1.kind ∧ ps[k].1.kind ≤ 3) && right ps[k].1) := rfl
   have hpx : partB ps[k].2 = (decide (1 ≤ ps[k].2.kind ∧ ps[k].2.kind ≤ 3) && right ps[k].2) := rfl
   rw [← hpx] at Hd
   have Hpk := Yq hpk
   clear hcell hx rk rx hpk hpx
   obtain ⟨key, hkey⟩ : ∃ x, x = ps[k].1 := ⟨_, rfl⟩
   rw [← hkey] at HIk Hrk Hd Hl Hpk c0
   have Hkey := Yq hkey; clear hkey
   obtain ⟨xk, hxk⟩ : ∃ x, x = key.kind := ⟨_, rfl⟩
   rw [← hxk] at HIk Hrk Hd Hpk c0
   have Hxk := Yq hxk; clear hxk
   generalize ps[k].2.kind = yk at *
   generalize partB ps[k].2 = rt at *
   obtain ⟨rk, hrk⟩ : ∃ r, r = partB key := ⟨_, rfl⟩
   rw [← hrk] at HIk Hpk
   have Hrk2 := Yq hrk; clear hrk
   have hb1 := Yq (hbel.alloc hsz (.cells #[.int .i64 xk, .int .u64 xn, .string xt, .slice xa1 xn1 xc1, .string xr, .slice xa2 xn2 xc2, .slice xa3 xn3 xc3, .int .i64 yk, .int .u64 yn, .string yt, .slice ya1 yn1 yc1, .string yr, .slice ya2 yn2 yc2, .slice ya3 yn3 yc3] 97))
   have hb2 := Yq ((Below.refl wr.heap.size wr).alloc (Nat.le_refl _) (.cells #[.int .i64 xk, .int .u64 xn, .string xt, .slice xa1 xn1 xc1, .string xr, .slice xa2 xn2 xc2, .slice xa3 xn3 xc3, .int .i64 yk, .int .u64 yn, .string yt, .slice ya1 yn1 yc1, .string yr, .slice ya2 yn2 yc2, .slice ya3 yn3 yc3] 97))
   by_cases t1 : xk = 1 ∨ xk = 2
   ·have Hkk : Hid ((decide (xk = 1 ∨ xk = 2) && right key) = rk) := by
     show _ = _
     rw [Hpk.out, decide_eq_true t1, decide_eq_true (show 1 ≤ xk ∧ xk ≤ 3 by omega)]
    rw [Hkk.out] at Hd
    cases rk with
    | false =>
     have hfin : Hid (rightP none ps = false) := by show _ = _; rw [Hinv.out, Hd.out]; simp
     rcases t1 with t1 | t1
     ·have e1 : (xk != 1) = false := by simpa using t1
      have T1 := Yq t1; clear t1
      go_wp2_with fail
      refine (HIk.out _ hb2.out).mono ?_
      rintro e w' ⟨rfl, hb⟩
      go_wp2_with fail
      go_ret
      exact ⟨ret_bool (Hfalse.out hfin.out).symm, hb1.out.trans (hb.mono hb1.out.size)⟩
     ·have e1 : (xk != 1) = true := by simp; omega
      have e2 : (xk != 2) = false := by simpa using t1
      have T1 := Yq t1; clear t1
      go_wp2_with fail
      refine (HIk.out _ hb2.out).mono ?_
      rintro e w' ⟨rfl, hb⟩
      go_wp2_with fail
      go_ret
      exact ⟨ret_bool (Hfalse.out hfin.out).symm, hb1.out.trans (hb.mono hb1.out.size)⟩
    | true =>
     have he : ((xk != 1) = false) ∨ ((xk != 1) = true ∧ (xk != 2) = false) := by
      rcases t1 with t1 | t1
      ·left; simpa using t1
      ·right; exact ⟨by simp; omega, by simpa using t1⟩
     clear t1
     have hcont : ∀ (w1 : World), Below (wr.heap.size + 1) (wr.alloc (.cells #[.int .i64 xk, .int .u64 xn, .string xt, .slice xa1 xn1 xc1, .string xr, .slice xa2 xn2 xc2, .slice xa3 xn3 xc3, .int .i64 yk, .int .u64 yn, .string yt, .slice ya1 yn1 yc1, .string yr, .slice ya2 yn2 yc2, .slice ya3 yn3 yc3] 97)) w1 → Hid (Below wr.heap.size wr w1 ∧ (w1.cell? ⟨wr.heap.size, 0, none⟩ = some (.int .i64 xk) ∧ w1.cell? ⟨wr.heap.size, 1, none⟩ = some (.int .u64 xn) ∧ w1.cell? ⟨wr.heap.size, 2, none⟩ = some (.string xt) ∧ w1.cell? ⟨wr.heap.size, 3, none⟩ = some (.slice xa1 xn1 xc1) ∧ w1.cell? ⟨wr.heap.size, 4, none⟩ = some (.string xr) ∧ w1.cell? ⟨wr.heap.size, 5, none⟩ = some (.slice xa2 xn2 xc2) ∧ w1.cell? ⟨wr.heap.size, 6, none⟩ = some (.slice xa3 xn3 xc3) ∧ w1.cell? ⟨wr.heap.size, 7, none⟩ = some (.int .i64 yk) ∧ w1.cell? ⟨wr.heap.size, 8, none⟩ = some (.int .u64 yn) ∧ w1.cell? ⟨wr.heap.size, 9, none⟩ = some (.string yt) ∧ w1.cell? ⟨wr.heap.size, 10, none⟩ = some (.slice ya1 yn1 yc1) ∧ w1.cell? ⟨wr.heap.size, 11, none⟩ = some (.string yr) ∧ w1.cell? ⟨wr.heap.size, 12, none⟩ = some (.slice ya2 yn2 yc2) ∧ w1.cell? ⟨wr.heap.size, 13, none⟩ = some (.slice ya3 yn3 yc3))) := by
      intro w1 hb
      refine ⟨((Below.refl _ _).alloc (Nat.le_refl _) _).trans (hb.mono (by omega)), ?_⟩
      refine ⟨?_, ?_, ?_, ?_, ?_, ?_, ?_, ?_, ?_, ?_, ?_, ?_, ?_, ?_⟩
      all_goals
       rw [hb.cell (by simp)]
       simp
     have Hcont := Yq hcont; clear hcont
     rcases he with e1 | ⟨e1, e2⟩
     all_goals
      go_wp2_with fail
      refine (HIk.out _ hb2.out).mono ?_
      rintro e w1 ⟨rfl, hbk⟩
      have hbk' : Below (wr.heap.size + 1) (wr.alloc (.cells #[.int .i64 xk, .int .u64 xn, .string xt, .slice xa1 xn1 xc1, .string xr, .slice xa2 xn2 xc2, .slice xa3 xn3 xc3, .int .i64 yk, .int .u64 yn, .string yt, .slice ya1 yn1 yc1, .string yr, .slice ya2 yn2 yc2, .slice ya3 yn3 yc3] 97)) w1 := by simpa using hbk
      have Hw1 := Hcont.out w1 hbk'
      have Hbk := Yq hbk'
      obtain ⟨q0, q1, q2, q3, q4, q5, q6, q7, q8, q9, q10, q11, q12, q13⟩ := Hw1.out.2
      clear hbk hbk'
      cases rt with
      | false =>
       have hfin : Hid (rightP none ps = false) := by show _ = _; rw [Hinv.out, Hd.out]; simp
       go_wp2_with fail
       refine (HIx.out _ Hw1.out.1).mono ?_
       rintro e w2 ⟨rfl, hb⟩
       go_wp2_with fail
       go_ret
       exact ⟨ret_bool (Hfalse.out hfin.out).symm, (hbel.trans (Hw1.out.1.mono hsz)).trans (hb.mono (Nat.le_trans hsz Hw1.out.1.size))⟩
      | true =>
       go_wp2_with fail
       refine (HIx.out _ Hw1.out.1).mono ?_
       rintro e w2 ⟨rfl, hb⟩
       have hb02 : Below (wr.heap.size + 1) (wr.alloc (.cells #[.int .i64 xk, .int .u64 xn, .string xt, .slice xa1 xn1 xc1, .string xr, .slice xa2 xn2 xc2, .slice xa3 xn3 xc3, .int .i64 yk, .int .u64 yn, .string yt, .slice ya1 yn1 yc1, .string yr, .slice ya2 yn2 yc2, .slice ya3 yn3 yc3] 97)) w2 := Hbk.out.trans (hb.mono (by have := Hbk.out.size; simpa using this))
       have Hb02 := Yq hb02; clear hb hb02
       have Hw2 := Hcont.out w2 Hb02.out
       clear q0 q1 q2 q3 q4 q5 q6 q7 q8 q9 q10 q11 q12 q13
       obtain ⟨q0, q1, q2, q3, q4, q5, q6, q7, q8, q9, q10, q11, q12, q13⟩ := Hw2.out.2
       have hsz2 := Hw2.out.1.size
       have Hbw2 := Yq (hbel.trans (Hw2.out.1.mono hsz))
       by_cases hk0 : k = 0
       ·have g0 : decide ((0 : Int) < (k : Int)) = false := decide_eq_false (by omega)
        have g1 : ¬ ((0 : Int) < (k : Int)) := by omega
        have g2 : decide (0 < k) = false := decide_eq_false (by omega)
        have g3 : ¬ (0 < k) := by omega
        have Hl0 : Hid (lastP ps k = none) := by show _ = _; rw [hk0]; rfl
        clear hk0
        go_wp2_with fail
        go_quiet (fail)
        all_goals
         go_wp2_with fail
         go_roundw
         case rel => exact ⟨k + 1, by omega, by simp, (by show _ = _; rw [Hinv.out, Hd.out, Hl.out, Hl0.out]; simp), Below.drewN Hbw2.out _⟩
         case measure => simp [intOf]; omega
       ·obtain ⟨j, hj⟩ : ∃ j, k = j + 1 := ⟨k - 1, by omega⟩
        have hjs : j < pe.length := by omega
        have hjf : j < ps.length := by omega
        obtain ⟨b1, o1, hb1', hidx1, hcell1⟩ := FlatC.at (n := n) (cap := cap) (a := a) HX.out (by decide) (i := j) hjs Tryz.underlying25 sizePar
        obtain ⟨lc, zc, hz, rl, rz⟩ := HF.out.at hjf hjs
        have Hlst : Hid (lastP ps k = some ps[j].1) := by show _ = _; rw [hj]; exact Val.lastP_succ hjf
        have hjk : (j : Int) = (k : Int) - 1 := by omega
        rw [hjk] at hidx1
        have HC := Yq (fun (wx : World) (hb : Below wr.heap.size wr wx) => compare_any ps[j].1 key lc _ wx (rl.mono ((below_le hbel).trans (below_le hb))) (Hrk.out.mono ((below_le hbel).trans (below_le hb))))
        obtain ⟨pn, pt, pr, pa1, pn1, pc1, pa2, pn2, pc2, pa3, pn3, pc3, rfl⟩ := rl.shapeK
        obtain ⟨zk, zn, zt, zr, za1, zn1, zc1, za2, zn2, zc2, za3, zn3, zc3, rfl⟩ := rz.shape
        rw [hz] at hcell1
        have d0 := (Hbw2.out.cell (p := ⟨b1, o1 + 0, none⟩) hb1').trans (hcell1 0 _ rfl)
        have d1 := (Hbw2.out.cell (p := ⟨b1, o1 + 1, none⟩) hb1').trans (hcell1 1 _ rfl)
        have d2 := (Hbw2.out.cell (p := ⟨b1, o1 + 2, none⟩) hb1').trans (hcell1 2 _ rfl)
        have d3 := (Hbw2.out.cell (p := ⟨b1, o1 + 3, none⟩) hb1').trans (hcell1 3 _ rfl)
        have d4 := (Hbw2.out.cell (p := ⟨b1, o1 + 4, none⟩) hb1').trans (hcell1 4 _ rfl)
        have d5 := (Hbw2.out.cell (p := ⟨b1, o1 + 5, none⟩) hb1').trans (hcell1 5 _ rfl)
        have d6 := (Hbw2.out.cell (p := ⟨b1, o1 + 6, none⟩) hb1').trans (hcell1 6 _ rfl)
        rw [Nat.add_zero] at d0
        have g1 : (0 : Int) < (k : Int) := by omega
        have g2 : decide (0 < k) = true := decide_eq_true (by omega)
        have g4 : 0 < k := by omega
        have g3 : (k : Int) - 1 < (n : Int) := by omega
        have hwr : IntKind.i64.wrap ((k : Int) - 1) = (k : Int) - 1 := IntWalk.i64_in _ (by omega)
        have hb1w : b1 < w2.heap.size := Nat.lt_of_lt_of_le hb1' Hbw2.out.size
        generalize ps[j].1 = last at *
        obtain ⟨pk, hpk⟩ : ∃ x, x = last.kind := ⟨_, rfl⟩
        rw [← hpk] at HC d0
        have Hpk2 := Yq hpk
        clear hcell1 hz rl rz hk0 hj hjk hpk hjs hjf
        have HK : Held w2.heap.size w2 (fun w' => ((w'.cell? ⟨wr.heap.size, 0, none⟩ = some (.int .i64 xk) ∧ w'.cell? ⟨wr.heap.size, 1, none⟩ = some (.int .u64 xn) ∧ w'.cell? ⟨wr.heap.size, 2, none⟩ = some (.string xt) ∧ w'.cell? ⟨wr.heap.size, 3, none⟩ = some (.slice xa1 xn1 xc1) ∧ w'.cell? ⟨wr.heap.size, 4, none⟩ = some (.string xr) ∧ w'.cell? ⟨wr.heap.size, 5, none⟩ = some (.slice xa2 xn2 xc2) ∧ w'.cell? ⟨wr.heap.size, 6, none⟩ = some (.slice xa3 xn3 xc3) ∧ w'.cell? ⟨wr.heap.size, 7, none⟩ = some (.int .i64 yk) ∧ w'.cell? ⟨wr.heap.size, 8, none⟩ = some (.int .u64 yn) ∧ w'.cell? ⟨wr.heap.size, 9, none⟩ = some (.string yt) ∧ w'.cell? ⟨wr.heap.size, 10, none⟩ = some (.slice ya1 yn1 yc1) ∧ w'.cell? ⟨wr.heap.size, 11, none⟩ = some (.string yr) ∧ w'.cell? ⟨wr.heap.size, 12, none⟩ = some (.slice ya2 yn2 yc2) ∧ w'.cell? ⟨wr.heap.size, 13, none⟩ = some (.slice ya3 yn3 yc3)) ∧ (w'.cell? ⟨b1, o1, none⟩ = some (.int .i64 pk) ∧ w'.cell? ⟨b1, o1 + 1, none⟩ = some (.int .u64 pn) ∧ w'.cell? ⟨b1, o1 + 2, none⟩ = some (.string pt) ∧ w'.cell? ⟨b1, o1 + 3, none⟩ = some (.slice pa1 pn1 pc1) ∧ w'.cell? ⟨b1, o1 + 4, none⟩ = some (.string pr) ∧ w'.cell? ⟨b1, o1 + 5, none⟩ = some (.slice pa2 pn2 pc2) ∧ w'.cell? ⟨b1, o1 + 6, none⟩ = some (.slice pa3 pn3 pc3)))) := by
         refine ⟨Nat.le_refl _, fun w' hb => ⟨⟨?_, ?_, ?_, ?_, ?_, ?_, ?_, ?_, ?_, ?_, ?_, ?_, ?_, ?_⟩, ?_, ?_, ?_, ?_, ?_, ?_, ?_⟩⟩
         all_goals
          rw [hb.cell (by first | (show wr.heap.size < w2.heap.size; have := Hb02.out.size; simp at this; omega) | exact hb1w)]
          assumption
        have HB : ∀ w', (((w'.cell? ⟨wr.heap.size, 0, none⟩ = some (.int .i64 xk) ∧ w'.cell? ⟨wr.heap.size, 1, none⟩ = some (.int .u64 xn) ∧ w'.cell? ⟨wr.heap.size, 2, none⟩ = some (.string xt) ∧ w'.cell? ⟨wr.heap.size, 3, none⟩ = some (.slice xa1 xn1 xc1) ∧ w'.cell? ⟨wr.heap.size, 4, none⟩ = some (.string xr) ∧ w'.cell? ⟨wr.heap.size, 5, none⟩ = some (.slice xa2 xn2 xc2) ∧ w'.cell? ⟨wr.heap.size, 6, none⟩ = some (.slice xa3 xn3 xc3) ∧ w'.cell? ⟨wr.heap.size, 7, none⟩ = some (.int .i64 yk) ∧ w'.cell? ⟨wr.heap.size, 8, none⟩ = some (.int .u64 yn) ∧ w'.cell? ⟨wr.heap.size, 9, none⟩ = some (.string yt) ∧ w'.cell? ⟨wr.heap.size, 10, none⟩ = some (.slice ya1 yn1 yc1) ∧ w'.cell? ⟨wr.heap.size, 11, none⟩ = some (.string yr) ∧ w'.cell? ⟨wr.heap.size, 12, none⟩ = some (.slice ya2 yn2 yc2) ∧ w'.cell? ⟨wr.heap.size, 13, none⟩ = some (.slice ya3 yn3 yc3)) ∧ (w'.cell? ⟨b1, o1, none⟩ = some (.int .i64 pk) ∧ w'.cell? ⟨b1, o1 + 1, none⟩ = some (.int .u64 pn) ∧ w'.cell? ⟨b1, o1 + 2, none⟩ = some (.string pt) ∧ w'.cell? ⟨b1, o1 + 3, none⟩ = some (.slice pa1 pn1 pc1) ∧ w'.cell? ⟨b1, o1 + 4, none⟩ = some (.string pr) ∧ w'.cell? ⟨b1, o1 + 5, none⟩ = some (.slice pa2 pn2 pc2) ∧ w'.cell? ⟨b1, o1 + 6, none⟩ = some (.slice pa3 pn3 pc3))) ∧ Below w2.heap.size w2 w') → Below wr.heap.size wr w' := fun w' h => Hw2.out.1.trans (h.2.mono hsz2)
        have HB := Yq HB; have HK := Yq HK
        by_cases hkk : pk = xk
        ·have gk : (pk != xk) = false := by simpa using hkk
         have Hkk2 := Yq hkk; clear hkk
         by_cases hc : cmp last key < 0
         ·have gc : decide (cmp last key ≥ 0) = false := by simpa using hc
          have gc2 : decide (0 ≤ cmp last key) = false := by simpa using hc
          have Hc := Yq hc; clear hc
          go_wp2_with fail
          go_region_held3 (fun w' => ((w'.cell? ⟨wr.heap.size, 0, none⟩ = some (.int .i64 xk) ∧ w'.cell? ⟨wr.heap.size, 1, none⟩ = some (.int .u64 xn) ∧ w'.cell? ⟨wr.heap.size, 2, none⟩ = some (.string xt) ∧ w'.cell? ⟨wr.heap.size, 3, none⟩ = some (.slice xa1 xn1 xc1) ∧ w'.cell? ⟨wr.heap.size, 4, none⟩ = some (.string xr) ∧ w'.cell? ⟨wr.heap.size, 5, none⟩ = some (.slice xa2 xn2 xc2) ∧ w'.cell? ⟨wr.heap.size, 6, none⟩ = some (.slice xa3 xn3 xc3) ∧ w'.cell? ⟨wr.heap.size, 7, none⟩ = some (.int .i64 yk) ∧ w'.cell? ⟨wr.heap.size, 8, none⟩ = some (.int .u64 yn) ∧ w'.cell? ⟨wr.heap.size, 9, none⟩ = some (.string yt) ∧ w'.cell? ⟨wr.heap.size, 10, none⟩ = some (.slice ya1 yn1 yc1) ∧ w'.cell? ⟨wr.heap.size, 11, none⟩ = some (.string yr) ∧ w'.cell? ⟨wr.heap.size, 12, none⟩ = some (.slice ya2 yn2 yc2) ∧ w'.cell? ⟨wr.heap.size, 13, none⟩ = some (.slice ya3 yn3 yc3)) ∧ (w'.cell? ⟨b1, o1, none⟩ = some (.int .i64 pk) ∧ w'.cell? ⟨b1, o1 + 1, none⟩ = some (.int .u64 pn) ∧ w'.cell? ⟨b1, o1 + 2, none⟩ = some (.string pt) ∧ w'.cell? ⟨b1, o1 + 3, none⟩ = some (.slice pa1 pn1 pc1) ∧ w'.cell? ⟨b1, o1 + 4, none⟩ = some (.string pr) ∧ w'.cell? ⟨b1, o1 + 5, none⟩ = some (.slice pa2 pn2 pc2) ∧ w'.cell? ⟨b1, o1 + 6, none⟩ = some (.slice pa3 pn3 pc3))) ∧ Below w2.heap.size w2 w')
           (first | assumption | exact HK.out.start | exact HK.out.call (by assumption) (by assumption) | exact HK.out.alloc (by assumption) _)
           (first
           | (go_at_call 34; refine (HC.out _ (HB.out _ (by assumption))).mono ?_; rintro e w3 ⟨rfl, hb3⟩))
          all_goals
           clear hwr
           go_wp2_with fail
           go_roundw
           case rel => exact ⟨k + 1, by omega, by simp, (by show _ = _; rw [Hinv.out, Hd.out, Hl.out, Hlst.out]; simp [Hkk2.out, ← Hpk2.out, Hc.out]), hbel.trans ((HB.out _ (by assumption)).mono hsz)⟩
           case measure => simp [intOf]; omega
         ·have gc : decide (cmp last key ≥ 0) = true := by simp; omega
          have gc2 : decide (0 ≤ cmp last key) = true := by simp; omega
          have Hc := Yq hc; clear hc
          have hfin : Hid (rightP none ps = false) := by show _ = _; rw [Hinv.out, Hd.out, Hlst.out]; simp [Hc.out]
          go_wp2_with fail
          go_region_held3 (fun w' => ((w'.cell? ⟨wr.heap.size, 0, none⟩ = some (.int .i64 xk) ∧ w'.cell? ⟨wr.heap.size, 1, none⟩ = some (.int .u64 xn) ∧ w'.cell? ⟨wr.heap.size, 2, none⟩ = some (.string xt) ∧ w'.cell? ⟨wr.heap.size, 3, none⟩ = some (.slice xa1 xn1 xc1) ∧ w'.cell? ⟨wr.heap.size, 4, none⟩ = some (.string xr) ∧ w'.cell? ⟨wr.heap.size, 5, none⟩ = some (.slice xa2 xn2 xc2) ∧ w'.cell? ⟨wr.heap.size, 6, none⟩ = some (.slice xa3 xn3 xc3) ∧ w'.cell? ⟨wr.heap.size, 7, none⟩ = some (.int .i64 yk) ∧ w'.cell? ⟨wr.heap.size, 8, none⟩ = some (.int .u64 yn) ∧ w'.cell? ⟨wr.heap.size, 9, none⟩ = some (.string yt) ∧ w'.cell? ⟨wr.heap.size, 10, none⟩ = some (.slice ya1 yn1 yc1) ∧ w'.cell? ⟨wr.heap.size, 11, none⟩ = some (.string yr) ∧ w'.cell? ⟨wr.heap.size, 12, none⟩ = some (.slice ya2 yn2 yc2) ∧ w'.cell? ⟨wr.heap.size, 13, none⟩ = some (.slice ya3 yn3 yc3)) ∧ (w'.cell? ⟨b1, o1, none⟩ = some (.int .i64 pk) ∧ w'.cell? ⟨b1, o1 + 1, none⟩ = some (.int .u64 pn) ∧ w'.cell? ⟨b1, o1 + 2, none⟩ = some (.string pt) ∧ w'.cell? ⟨b1, o1 + 3, none⟩ = some (.slice pa1 pn1 pc1) ∧ w'.cell? ⟨b1, o1 + 4, none⟩ = some (.string pr) ∧ w'.cell? ⟨b1, o1 + 5, none⟩ = some (.slice pa2 pn2 pc2) ∧ w'.cell? ⟨b1, o1 + 6, none⟩ = some (.slice pa3 pn3 pc3))) ∧ Below w2.heap.size w2 w')
           (first | assumption | exact HK.out.start | exact HK.out.call (by assumption) (by assumption) | exact HK.out.alloc (by assumption) _)
           (first
           | (go_at_call 34; refine (HC.out _ (HB.out _ (by assumption))).mono ?_; rintro e w3 ⟨rfl, hb3⟩))
          all_goals
           clear hwr
           go_wp2_with fail
           go_ret
           exact ⟨ret_bool (Hfalse.out hfin.out).symm, hbel.trans ((HB.out _ (by assumption)).mono hsz)⟩
        ·have gk : (pk != xk) = true := by simpa using hkk
         have Hkk2 := Yq hkk; clear hkk
         have hfin : Hid (rightP none ps = false) := by show _ = _; rw [Hinv.out, Hd.out, Hlst.out]; simp [← Hpk2.out, Hkk2.out]
         go_wp2_with fail
         go_quiet (fail)
         go_wp2_with fail
         go_ret
         exact ⟨ret_bool (Hfalse.out hfin.out).symm, Below.drewN Hbw2.out _⟩
   ·have e1 : (xk != 1) = true := by simp; omega
    have e2 : (xk != 2) = true := by simp; omega
    have T1 := Yq t1; clear t1
    have hfin : Hid (rightP none ps = false) := by show _ = _; rw [Hinv.out, Hd.out, decide_eq_false T1.out]; simp
    go_wp2_with fail
    go_ret
    exact ⟨ret_bool (Hfalse.out hfin.out).symm, hb1.out⟩
  ·obtain rfl : k = n := by omega
   go_wp2_with fail
   go_ret
   refine ⟨ret_bool ?_, hbel⟩
   rw [Hinv.out, ← Hm.out, List.drop_length, rightP]
   simp
theorem right_step (N : Nat) (ih : RightAt N) : RightAt (N + 1) := by
 intro x xc w hs hx
 obtain ⟨k, n, t, f, r, l, p⟩ := x
 have hsF : ∀ e ∈ f, SizeOf.sizeOf e.2 < N := fun e he => by have := Val.size_field (x := .mk k n t f r l p) (m := e.1) (v := e.2) he; omega
 have hsL : ∀ e ∈ l, SizeOf.sizeOf e < N := fun e he => by have := Val.size_list (x := .mk k n t f r l p) (v := e) he; omega
 have hsP : ∀ e ∈ p, SizeOf.sizeOf e.1 < N ∧ SizeOf.sizeOf e.2 < N := fun e he => by have := Val.size_pair (x := .mk k n t f r l p) (k := e.1) (v := e.2) he; omega
 rw [VR] at hx
 obtain ⟨fv, lv, pv, fe, le, pe, rfl, _, ⟨hf, hl, hp⟩, hF, hL, hP⟩ := hx
 rw [right]
 have HF : ∀ wx, Below w.heap.size w wx → Calls Tryz.prog 44 #[fv] wx fun e w' => e = .returned (.bool (rightF 0 f)) ∧ Below wx.heap.size wx w' :=
  fun wx hb => fields_at N ih f fe fv wx hsF (hf.mono (below_le hb)) (hF.mono (below_le hb))
 have HP : ∀ wx, Below w.heap.size w wx → Calls Tryz.prog 48 #[pv] wx fun e w' => e = .returned (.bool (decide (0 < p.length) && rightP none p)) ∧ Below wx.heap.size wx w' :=
  fun wx hb => pairs_at N ih p pe pv wx hsP (hp.mono (below_le hb)) (hP.mono (below_le hb))
 have HL : ∀ wx, Below w.heap.size w wx → Calls Tryz.prog 45 #[lv, .func (.func 46) #[] #[]] wx fun e w' => e = .returned (.bool (!rightL l)) ∧ Below wx.heap.size wx w' := by
  intro wx hb
  have := containsfunc_any le (fun i => !partB (l.getD i Val.v0)) lv 46 wx (hl.mono (below_le hb)) hL.shapes (enters_of Tryz.func46 (by kernel_rfl) rfl) ?_
  ·have e : (List.range le.length).any (fun i => !partB (l.getD i Val.v0)) = !rightL l := by
    rw [hL.len, Val.rightL_all, Bool.eq_iff_iff]
    simp only [List.any_eq_true, List.mem_range, Bool.not_eq_true', Bool.eq_false_iff, ne_eq, List.all_eq_true, Classical.not_forall]
    constructor
    ·rintro ⟨i, hi, h⟩
     refine ⟨l[i], List.getElem_mem _, ?_⟩
     simpa [List.getD_eq_getElem?_getD, List.getElem?_eq_getElem hi] using h
    ·rintro ⟨x, hx, h⟩
     obtain ⟨i, hi, rfl⟩ := List.getElem_of_mem hx
     exact ⟨i, hi, by simpa [List.getD_eq_getElem?_getD, List.getElem?_eq_getElem hi] using h⟩
   rw [e] at this
   exact this
  ·intro i h1 wy hb2
   have h1' : i < l.length := by rw [← hL.len]; exact h1
   simp only [List.getD_eq_getElem?_getD, List.getElem?_eq_getElem h1', Option.getD_some]
   exact right1_at N ih _ _ wy (hsL _ (List.getElem_mem _)) ((hL.at h1' h1).mono ((below_le hb).trans (below_le hb2)))
 have hlf := hF.len; have hll := hL.len; have hlp := hP.len
 obtain ⟨a1, c1, rfl, _⟩ := hf.len
 obtain ⟨a2, c2, rfl, _⟩ := hl.len
 obtain ⟨a3, c3, rfl, _⟩ := hp.len
 rw [hlf] at HF ⊢
 rw [hll] at HL ⊢
 rw [hlp] at HP ⊢
 have HB := Yq (fun wx => bare_any k n t r a1 f.length c1 a2 l.length c2 a3 p.length c3 wx)
 rw [bareB_eq] at HB
 have HF := Yq HF; have HL := Yq HL; have HP := Yq HP
 clear hf hl hp hF hL hP hsF hsL hsP ih hlf hll hlp
 generalize rightF 0 f = aF at *
 generalize rightL l = aL at *
 generalize rightP none p = aP at *
 generalize f.length = n1 at *
 generalize l.length = n2 at *
 generalize p.length = n3 at *
 have hb0 := Yq ((Below.refl w.heap.size w).alloc (Nat.le_refl _) (.cells #[.int .i64 k, .int .u64 n, .string t, .slice a1 n1 c1, .string r, .slice a2 n2 c2, .slice a3 n3 c3] 27))
 have hcell : ∀ w1 : World, Below (w.heap.size + 1) (w.alloc (.cells #[.int .i64 k, .int .u64 n, .string t, .slice a1 n1 c1, .string r, .slice a2 n2 c2, .slice a3 n3 c3] 27)) w1 →
   w1.cell? ⟨w.heap.size, 0, none⟩ = some (.int .i64 k) ∧ w1.cell? ⟨w.heap.size, 3, none⟩ = some (.slice a1 n1 c1) ∧ w1.cell? ⟨w.heap.size, 5, none⟩ = some (.slice a2 n2 c2) ∧ w1.cell? ⟨w.heap.size, 6, none⟩ = some (.slice a3 n3 c3) := by
  intro w1 hb
  refine ⟨?_, ?_, ?_, ?_⟩
  all_goals
   rw [hb.cell (by simp)]
   simp
 have Hcell := Yq hcell; clear hcell
 generalize bareV k n t n1 r n2 n3 = bb at *
 cases bb with
 | false =>
  rw [Bool.false_and]
  go_enter Tryz.func21, Tryz.ntmps21
  go_wp2_with fail
  refine (HB.out _).mono ?_
  rintro e w1 ⟨rfl, hb⟩
  go_wp2_with fail
  go_ret
  exact ⟨rfl, hb0.out.trans (hb.mono hb0.out.size)⟩
 | true =>
  rw [Bool.true_and]
  by_cases h0 : k = 0 ∨ k = 1 ∨ k = 2
  ·rw [if_pos h0]
   rcases h0 with rfl | rfl | rfl
   all_goals
    go_enter Tryz.func21, Tryz.ntmps21
    go_wp2_with fail
    refine (HB.out _).mono ?_
    rintro e w1 ⟨rfl, hb⟩
    have hbw := Yq (hb0.out.trans (hb.mono hb0.out.size))
    obtain ⟨c0, _⟩ := Hcell.out w1 (by simpa using hb)
    go_wp2_with fail
    go_ret
    exact ⟨rfl, hbw.out⟩
  ·rw [if_neg h0]
   by_cases h3 : k = 3
   ·subst h3
    rw [if_pos rfl]
    go_enter Tryz.func21, Tryz.ntmps21
    go_wp2_with fail
    refine (HB.out _).mono ?_
    rintro e w1 ⟨rfl, hb⟩
    have hbw := Yq (hb0.out.trans (hb.mono hb0.out.size))
    obtain ⟨q0, q1, q2, q3⟩ := Hcell.out w1 (by simpa using hb)
    clear hb
    go_wp2_with fail
    refine (HF.out _ hbw.out).mono ?_
    rintro e w2 ⟨rfl, hb2⟩
    go_wp2_with fail
    go_ret
    exact ⟨rfl, hbw.out.trans (hb2.mono hbw.out.size)⟩
   ·rw [if_neg h3]
    by_cases h4 : k = 4
    ·subst h4
     rw [if_pos rfl]
     by_cases hz : 0 < n2
     ·rw [decide_eq_true hz, Bool.true_and]
      go_enter Tryz.func21, Tryz.ntmps21
      go_wp2_with fail
      refine (HB.out _).mono ?_
      rintro e w1 ⟨rfl, hb⟩
      have hbw := Yq (hb0.out.trans (hb.mono hb0.out.size))
      obtain ⟨q0, q1, q2, q3⟩ := Hcell.out w1 (by simpa using hb)
      clear hb
      have hz1 : decide (0 < n2) = true := decide_eq_true hz
      go_wp2_with fail
      refine (HL.out _ hbw.out).mono ?_
      rintro e w2 ⟨rfl, hb2⟩
      go_wp2_with fail
      go_ret
      exact ⟨ret_bool (by simp), hbw.out.trans (hb2.mono hbw.out.size)⟩
     ·rw [decide_eq_false hz, Bool.false_and]
      go_enter Tryz.func21, Tryz.ntmps21
      go_wp2_with fail
      refine (HB.out _).mono ?_
      rintro e w1 ⟨rfl, hb⟩
      have hbw := Yq (hb0.out.trans (hb.mono hb0.out.size))
      obtain ⟨q0, q1, q2, q3⟩ := Hcell.out w1 (by simpa using hb)
      clear hb
      obtain rfl : n2 = 0 := by omega
      go_wp2_with fail
      go_ret
      exact ⟨rfl, hbw.out⟩
    ·rw [if_neg h4]
     by_cases h5 : k = 5
     ·subst h5
      rw [if_pos rfl]
      go_enter Tryz.func21, Tryz.ntmps21
      go_wp2_with fail
      refine (HB.out _).mono ?_
      rintro e w1 ⟨rfl, hb⟩
      have hbw := Yq (hb0.out.trans (hb.mono hb0.out.size))
      obtain ⟨q0, q1, q2, q3⟩ := Hcell.out w1 (by simpa using hb)
      clear hb
      go_wp2_with fail
      refine (HP.out _ hbw.out).mono ?_
      rintro e w2 ⟨rfl, hb2⟩
      go_wp2_with fail
      go_ret
      exact ⟨rfl, hbw.out.trans (hb2.mono hbw.out.size)⟩
     ·rw [if_neg h5]
      have e0 : (k == 0) = false := by simp; omega
      have e1 : (k == 1) = false := by simp; omega
      have e2 : (k == 2) = false := by simp; omega
      have e3 : (k == 3) = false := by simp; omega
      have e4 : (k == 4) = false := by simp; omega
      have e5 : (k == 5) = false := by simp; omega
      clear h0 h3 h4 h5
      go_enter Tryz.func21, Tryz.ntmps21
      go_wp2_with fail
      refine (HB.out _).mono ?_
      rintro e w1 ⟨rfl, hb⟩
      have hbw := Yq (hb0.out.trans (hb.mono hb0.out.size))
      obtain ⟨q0, q1, q2, q3⟩ := Hcell.out w1 (by simpa using hb)
      clear hb
      go_wp2_with fail
      go_ret
      exact ⟨rfl, hbw.out⟩
theorem right_at : ∀ N, RightAt N
 | 0 => fun x xc w h => by omega
 | N + 1 => right_step N (right_at N)
theorem right_any (x : V) (xc : List Value) (w : World) (hx : VR (frag w) x xc) :
  Calls Tryz.prog 21 #[.agg xc.toArray] w fun e w' => e = .returned (.bool (right x)) ∧ Below w.heap.size w w' :=
 right_at _ x xc w (Nat.lt_succ_self _) hx
end Go.Proofs.YtlmbcoecipbblaaGreatDoor
