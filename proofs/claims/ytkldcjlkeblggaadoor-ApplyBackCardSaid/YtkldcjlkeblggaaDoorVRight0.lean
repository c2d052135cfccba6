/- value.Same, own, bare, walked. -/
import Derived.Test.YtkldcjlkeblggaaDoorVCmp
import Derived.BigGuardPart
namespace Go.Proofs.YtkldcjlkeblggaaDoor
open Go.RowKit
open Val (V cmp cmpF cmpL cmpP ocmp orr scmp)
set_option linter.unusedVariables false

theorem box_agg {t : TypeId} : True := trivial

set_option maxRecDepth 100000 in
theorem same_any (x y : V) (xc yc : List Value) (w : World) (hx : VR (frag w) x xc) (hy : VR (frag w) y yc) :
    Calls Tryd.prog 9 #[.agg xc.toArray, .agg yc.toArray] w fun e w' => e = .returned (.bool (decide (cmp x y = 0))) ∧ Below w.heap.size w w' := by
  have HI := Lib.hid (fun (wx : World) (hb : Below w.heap.size w wx) => compare_any x y xc yc wx (hx.mono (below_le hb)) (hy.mono (below_le hb)))
  obtain ⟨xk, xn, xt, xr, xa1, xn1, xc1, xa2, xn2, xc2, xa3, xn3, xc3, rfl⟩ := hx.shape
  obtain ⟨yk, yn, yt, yr, ya1, yn1, yc1, ya2, yn2, yc2, ya3, yn3, yc3, rfl⟩ := hy.shape
  clear hx hy
  have hb0 := Lib.hid ((Below.alloc (Below.alloc (Below.refl w.heap.size w) (Nat.le_refl _) (.cells #[.int .i64 xk, .int .u64 xn, .string xt, .slice xa1 xn1 xc1, .string xr, .slice xa2 xn2 xc2, .slice xa3 xn3 xc3] 27)) (by simp) (.cells #[.int .i64 yk, .int .u64 yn, .string yt, .slice ya1 yn1 yc1, .string yr, .slice ya2 yn2 yc2, .slice ya3 yn3 yc3] 27)))
  go_enter Tryd.func9, Tryd.ntmps9
  go_wp2_with fail
  refine (HI.out _ hb0.out).mono ?_
  rintro e w' ⟨rfl, hb⟩
  go_wp2_with fail
  go_ret
  refine ⟨ret_bool ?_, hb0.out.trans (hb.mono hb0.out.size)⟩
  rfl

def ownN (k n : Int) : Int := if k = 1 then 0 else n
def ownT (j k : Int) (t : ByteArray) : ByteArray := if k = j then ⟨#[]⟩ else t
def ownS (j k : Int) (v : Value) : Value := if k = j then .slice none 0 0 else v

set_option maxRecDepth 100000 in
set_option maxHeartbeats 1000000 in
theorem own_any (k n : Int) (t r : ByteArray) (a1 : Option Addr) (n1 c1 : Nat) (a2 : Option Addr) (n2 c2 : Nat) (a3 : Option Addr) (n3 c3 : Nat) (w : World) :
    Calls Tryd.prog 46 #[.agg #[.int .i64 k, .int .u64 n, .string t, .slice a1 n1 c1, .string r, .slice a2 n2 c2, .slice a3 n3 c3]] w fun e w' =>
      e = .returned (.agg #[.int .i64 k, .int .u64 (ownN k n), .string (ownT 2 k t), ownS 3 k (.slice a1 n1 c1), .string (ownT 3 k r), ownS 4 k (.slice a2 n2 c2), ownS 5 k (.slice a3 n3 c3)]) ∧ Below w.heap.size w w' := by
  by_cases h1 : k = 1
  · subst h1
    go_enter Tryd.func46, Tryd.ntmps46
    go_wp2_with fail
    exact bodyPost_ret (v := .agg #[.int .i64 1, .int .u64 0, .string t, .slice a1 n1 c1, .string r, .slice a2 n2 c2, .slice a3 n3 c3]) (by simp [results, Tryd.results46, go_sem]) rfl ⟨rfl, ((Below.refl _ _).alloc (Nat.le_refl _) _).alloc (by simp) _⟩
  · skip
    by_cases h2 : k = 2
    · subst h2
      go_enter Tryd.func46, Tryd.ntmps46
      go_wp2_with fail
      exact bodyPost_ret (v := .agg #[.int .i64 2, .int .u64 n, .string ⟨#[]⟩, .slice a1 n1 c1, .string r, .slice a2 n2 c2, .slice a3 n3 c3]) (by simp [results, Tryd.results46, go_sem]) rfl ⟨rfl, ((Below.refl _ _).alloc (Nat.le_refl _) _).alloc (by simp) _⟩
    · skip
      by_cases h3 : k = 3
      · subst h3
        go_enter Tryd.func46, Tryd.ntmps46
        go_wp2_with fail
        exact bodyPost_ret (v := .agg #[.int .i64 3, .int .u64 n, .string t, .slice none 0 0, .string ⟨#[]⟩, .slice a2 n2 c2, .slice a3 n3 c3]) (by simp [results, Tryd.results46, go_sem]) rfl ⟨rfl, ((Below.refl _ _).alloc (Nat.le_refl _) _).alloc (by simp) _⟩
      · skip
        by_cases h4 : k = 4
        · subst h4
          go_enter Tryd.func46, Tryd.ntmps46
          go_wp2_with fail
          exact bodyPost_ret (v := .agg #[.int .i64 4, .int .u64 n, .string t, .slice a1 n1 c1, .string r, .slice none 0 0, .slice a3 n3 c3]) (by simp [results, Tryd.results46, go_sem]) rfl ⟨rfl, ((Below.refl _ _).alloc (Nat.le_refl _) _).alloc (by simp) _⟩
        · skip
          by_cases h5 : k = 5
          · subst h5
            go_enter Tryd.func46, Tryd.ntmps46
            go_wp2_with fail
            exact bodyPost_ret (v := .agg #[.int .i64 5, .int .u64 n, .string t, .slice a1 n1 c1, .string r, .slice a2 n2 c2, .slice none 0 0]) (by simp [results, Tryd.results46, go_sem]) rfl ⟨rfl, ((Below.refl _ _).alloc (Nat.le_refl _) _).alloc (by simp) _⟩
          · skip
            have H1 := Lib.hid h1
            have e1 : (k == 1) = false := by simpa using h1
            have H2 := Lib.hid h2
            have e2 : (k == 2) = false := by simpa using h2
            have H3 := Lib.hid h3
            have e3 : (k == 3) = false := by simpa using h3
            have H4 := Lib.hid h4
            have e4 : (k == 4) = false := by simpa using h4
            have H5 := Lib.hid h5
            have e5 : (k == 5) = false := by simpa using h5
            clear h1 h2 h3 h4 h5
            go_enter Tryd.func46, Tryd.ntmps46
            go_wp2_with fail
            exact bodyPost_ret (v := .agg #[.int .i64 k, .int .u64 n, .string t, .slice a1 n1 c1, .string r, .slice a2 n2 c2, .slice a3 n3 c3]) (by simp [results, Tryd.results46, go_sem]) rfl ⟨by simp [ownN, ownT, ownS, H1.out, H2.out, H3.out, H4.out, H5.out], ((Below.refl _ _).alloc (Nat.le_refl _) _).alloc (by simp) _⟩

/-- whether a value has nothing that its kind doesn't have -/
def bareB (k n : Int) (t : ByteArray) (nf : Nat) (r : ByteArray) (nl np : Nat) : Bool :=
  decide (ownN k n = 0) && (decide ((ownT 2 k t).size = 0) && (decide (k = 3 ∨ nf = 0) && (decide ((ownT 3 k r).size = 0) && (decide (k = 4 ∨ nl = 0) && decide (k = 5 ∨ np = 0)))))

theorem ownS_slice (j k : Int) (a : Option Addr) (n c : Nat) : ∃ a' n' c', ownS j k (.slice a n c) = .slice a' n' c' ∧ (n' = 0 ↔ k = j ∨ n = 0) := by
  unfold ownS
  by_cases h : k = j
  · rw [if_pos h]; exact ⟨_, _, _, rfl, by simp [h]⟩
  · rw [if_neg h]; exact ⟨_, _, _, rfl, by simp [h]⟩

set_option maxRecDepth 100000 in
set_option maxHeartbeats 1000000 in
theorem bare_any (k n : Int) (t r : ByteArray) (a1 : Option Addr) (n1 c1 : Nat) (a2 : Option Addr) (n2 c2 : Nat) (a3 : Option Addr) (n3 c3 : Nat) (w : World) :
    Calls Tryd.prog 22 #[.agg #[.int .i64 k, .int .u64 n, .string t, .slice a1 n1 c1, .string r, .slice a2 n2 c2, .slice a3 n3 c3]] w fun e w' =>
      e = .returned (.bool (bareB k n t n1 r n2 n3)) ∧ Below w.heap.size w w' := by
  have HO := Lib.hid (fun wx => own_any k n t r a1 n1 c1 a2 n2 c2 a3 n3 c3 wx)
  obtain ⟨b1, m1, d1, e1, q1⟩ := ownS_slice 3 k a1 n1 c1
  obtain ⟨b2, m2, d2, e2, q2⟩ := ownS_slice 4 k a2 n2 c2
  obtain ⟨b3, m3, d3, e3, q3⟩ := ownS_slice 5 k a3 n3 c3
  rw [e1, e2, e3] at HO
  have hB : bareB k n t n1 r n2 n3 = (decide (ownN k n = 0) && (decide ((ownT 2 k t).size = 0) && (decide (m1 = 0) && (decide ((ownT 3 k r).size = 0) && (decide (m2 = 0) && decide (m3 = 0)))))) := by
    unfold bareB
    rw [decide_eq_decide.2 q1, decide_eq_decide.2 q2, decide_eq_decide.2 q3]
  rw [hB]
  clear e1 e2 e3 q1 q2 q3 hB
  generalize ownN k n = n' at *
  generalize ownT 2 k t = t' at *
  generalize ownT 3 k r = r' at *
  by_cases t0 : n' = 0
  rotate_left
  · have Ht0 := Lib.hid t0
    have bt0 : (n' == 0) = false := by simpa using t0
    clear t0
    go_enter Tryd.func22, Tryd.ntmps22
    go_wp2_with fail
    refine (HO.out _).mono ?_
    rintro e w1 ⟨rfl, hb⟩
    have hbw := Lib.hid (((Below.refl w.heap.size w).alloc (Nat.le_refl _) _).trans (hb.mono (by simp)))
    clear hb
    go_wp2_with fail
    go_ret
    exact ⟨ret_bool (by simp [Ht0.out]), hbw.out.alloc hbw.out.size _⟩
  subst t0
  by_cases t1 : t'.size = 0
  rotate_left
  · have Ht1 := Lib.hid t1
    have bt1 : t'.toList.isEmpty = false := isEmpty_no t1
    have ct1 : t'.toList ≠ [] := by intro h; rw [h] at bt1; simp at bt1
    clear t1
    go_enter Tryd.func22, Tryd.ntmps22
    go_wp2_with fail
    refine (HO.out _).mono ?_
    rintro e w1 ⟨rfl, hb⟩
    have hbw := Lib.hid (((Below.refl w.heap.size w).alloc (Nat.le_refl _) _).trans (hb.mono (by simp)))
    clear hb
    go_wp2_with fail
    go_ret
    exact ⟨ret_bool (by simp [Ht1.out]), hbw.out.alloc hbw.out.size _⟩
  have bt1 : t'.toList.isEmpty = true := isEmpty_yes t1
  have ct1 : t'.toList = [] := by simpa using bt1
  have Ht1 := Lib.hid t1
  clear t1
  by_cases t2 : m1 = 0
  rotate_left
  · have Ht2 := Lib.hid t2
    have bt2 : (((m1 : Nat) : Int) == 0) = false := by simp; omega
    clear t2
    go_enter Tryd.func22, Tryd.ntmps22
    go_wp2_with fail
    refine (HO.out _).mono ?_
    rintro e w1 ⟨rfl, hb⟩
    have hbw := Lib.hid (((Below.refl w.heap.size w).alloc (Nat.le_refl _) _).trans (hb.mono (by simp)))
    clear hb
    go_wp2_with fail
    go_ret
    exact ⟨ret_bool (by simp [Ht2.out]), hbw.out.alloc hbw.out.size _⟩
  subst t2
  by_cases t3 : r'.size = 0
  rotate_left
  · have Ht3 := Lib.hid t3
    have bt3 : r'.toList.isEmpty = false := isEmpty_no t3
    have ct3 : r'.toList ≠ [] := by intro h; rw [h] at bt3; simp at bt3
    clear t3
    go_enter Tryd.func22, Tryd.ntmps22
    go_wp2_with fail
    refine (HO.out _).mono ?_
    rintro e w1 ⟨rfl, hb⟩
    have hbw := Lib.hid (((Below.refl w.heap.size w).alloc (Nat.le_refl _) _).trans (hb.mono (by simp)))
    clear hb
    go_wp2_with fail
    go_ret
    exact ⟨ret_bool (by simp [Ht3.out]), hbw.out.alloc hbw.out.size _⟩
  have bt3 : r'.toList.isEmpty = true := isEmpty_yes t3
  have ct3 : r'.toList = [] := by simpa using bt3
  have Ht3 := Lib.hid t3
  clear t3
  by_cases t4 : m2 = 0
  rotate_left
  · have Ht4 := Lib.hid t4
    have bt4 : (((m2 : Nat) : Int) == 0) = false := by simp; omega
    clear t4
    go_enter Tryd.func22, Tryd.ntmps22
    go_wp2_with fail
    refine (HO.out _).mono ?_
    rintro e w1 ⟨rfl, hb⟩
    have hbw := Lib.hid (((Below.refl w.heap.size w).alloc (Nat.le_refl _) _).trans (hb.mono (by simp)))
    clear hb
    go_wp2_with fail
    go_ret
    exact ⟨ret_bool (by simp [Ht4.out]), hbw.out.alloc hbw.out.size _⟩
  subst t4
  by_cases t5 : m3 = 0
  rotate_left
  · have Ht5 := Lib.hid t5
    have bt5 : (((m3 : Nat) : Int) == 0) = false := by simp; omega
    clear t5
    go_enter Tryd.func22, Tryd.ntmps22
    go_wp2_with fail
    refine (HO.out _).mono ?_
    rintro e w1 ⟨rfl, hb⟩
    have hbw := Lib.hid (((Below.refl w.heap.size w).alloc (Nat.le_refl _) _).trans (hb.mono (by simp)))
    clear hb
    go_wp2_with fail
    go_ret
    exact ⟨ret_bool (by simp [Ht5.out]), hbw.out.alloc hbw.out.size _⟩
  subst t5
  go_enter Tryd.func22, Tryd.ntmps22
  go_wp2_with fail
  refine (HO.out _).mono ?_
  rintro e w1 ⟨rfl, hb⟩
  have hbw := Lib.hid (((Below.refl w.heap.size w).alloc (Nat.le_refl _) _).trans (hb.mono (by simp)))
  clear hb
  go_wp2_with fail
  go_ret
  exact ⟨ret_bool (by simp [Ht1.out, Ht3.out]), hbw.out.alloc hbw.out.size _⟩

end Go.Proofs.YtkldcjlkeblggaaDoor
