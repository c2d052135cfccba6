/- value.Right, walked. -/
import Derived.Test.YtkldcjlkeblggaaDoorVPairs
namespace Go.Proofs.YtkldcjlkeblggaaDoor
open Go.RowKit
open Val (V cmp right rightF rightL rightP bareV partB lastF lastP)
set_option linter.unusedVariables false

set_option maxRecDepth 100000 in
set_option maxHeartbeats 4000000 in
theorem right_step (N : Nat) (ih : RightAt N) : RightAt (N + 1) := by
  intro x xc w hs hx
  obtain ⟨k, n, t, f, r, l, p⟩ := x
  have hsF : ∀ e ∈ f, SizeOf.sizeOf e.2 < N := fun e he => by have := Val.size_field (x := .mk k n t f r l p) (m := e.1) (v := e.2) he; omega
  have hsL : ∀ e ∈ l, SizeOf.sizeOf e < N := fun e he => by have := Val.size_list (x := .mk k n t f r l p) (v := e) he; omega
  have hsP : ∀ e ∈ p, SizeOf.sizeOf e.1 < N ∧ SizeOf.sizeOf e.2 < N := fun e he => by have := Val.size_pair (x := .mk k n t f r l p) (k := e.1) (v := e.2) he; omega
  rw [VR] at hx
  obtain ⟨fv, lv, pv, fe, le, pe, rfl, _, ⟨hf, hl, hp⟩, hF, hL, hP⟩ := hx
  rw [right]
  have HF : ∀ wx, Below w.heap.size w wx → Calls Tryd.prog 23 #[fv] wx fun e w' => e = .returned (.bool (rightF 0 f)) ∧ Below wx.heap.size wx w' :=
    fun wx hb => fields_at N ih f fe fv wx hsF (hf.mono (below_le hb)) (hF.mono (below_le hb))
  have HP : ∀ wx, Below w.heap.size w wx → Calls Tryd.prog 27 #[pv] wx fun e w' => e = .returned (.bool (decide (0 < p.length) && rightP none p)) ∧ Below wx.heap.size wx w' :=
    fun wx hb => pairs_at N ih p pe pv wx hsP (hp.mono (below_le hb)) (hP.mono (below_le hb))
  have HL : ∀ wx, Below w.heap.size w wx → Calls Tryd.prog 24 #[lv, .func (.func 25) #[] #[]] wx fun e w' => e = .returned (.bool (!rightL l)) ∧ Below wx.heap.size wx w' := by
    intro wx hb
    have := containsfunc_any le (fun i => !partB (l.getD i Val.v0)) lv 25 wx (hl.mono (below_le hb)) hL.shapes (enters_of Tryd.func25 (by kernel_rfl) rfl) ?_
    · have e : (List.range le.length).any (fun i => !partB (l.getD i Val.v0)) = !rightL l := by
        rw [hL.len, Val.rightL_all, Bool.eq_iff_iff]
        simp only [List.any_eq_true, List.mem_range, Bool.not_eq_true', Bool.eq_false_iff, ne_eq, List.all_eq_true, Classical.not_forall]
        constructor
        · rintro ⟨i, hi, h⟩
          refine ⟨l[i], List.getElem_mem _, ?_⟩
          simpa [List.getD_eq_getElem?_getD, List.getElem?_eq_getElem hi] using h
        · rintro ⟨x, hx, h⟩
          obtain ⟨i, hi, rfl⟩ := List.getElem_of_mem hx
          exact ⟨i, hi, by simpa [List.getD_eq_getElem?_getD, List.getElem?_eq_getElem hi] using h⟩
      rw [e] at this
      exact this
    · intro i h1 wy hb2
      have h1' : i < l.length := by rw [← hL.len]; exact h1
      simp only [List.getD_eq_getElem?_getD, List.getElem?_eq_getElem h1', Option.getD_some]
      exact right1_at N ih _ _ wy (hsL _ (List.getElem_mem _)) ((hL.at h1' h1).mono ((below_le hb).trans (below_le hb2)))
  have hlf := hF.len; have hll := hL.len; have hlp := hP.len
  obtain ⟨a1, c1, rfl, _⟩ := hf.len
  obtain ⟨a2, c2, rfl, _⟩ := hl.len
  obtain ⟨a3, c3, rfl, _⟩ := hp.len
  rw [hlf] at HF ⊢
  rw [hll] at HL ⊢
  rw [hlp] at HP ⊢
  have HB := Lib.hid (fun wx => bare_any k n t r a1 f.length c1 a2 l.length c2 a3 p.length c3 wx)
  rw [bareB_eq] at HB
  have HF := Lib.hid HF; have HL := Lib.hid HL; have HP := Lib.hid HP
  clear hf hl hp hF hL hP hsF hsL hsP ih hlf hll hlp
  generalize rightF 0 f = aF at *
  generalize rightL l = aL at *
  generalize rightP none p = aP at *
  generalize f.length = n1 at *
  generalize l.length = n2 at *
  generalize p.length = n3 at *
  have hb0 := Lib.hid ((Below.refl w.heap.size w).alloc (Nat.le_refl _) (.cells #[.int .i64 k, .int .u64 n, .string t, .slice a1 n1 c1, .string r, .slice a2 n2 c2, .slice a3 n3 c3] 27))
  have hcell : ∀ w1 : World, Below (w.heap.size + 1) (w.alloc (.cells #[.int .i64 k, .int .u64 n, .string t, .slice a1 n1 c1, .string r, .slice a2 n2 c2, .slice a3 n3 c3] 27)) w1 →
      w1.cell? ⟨w.heap.size, 0, none⟩ = some (.int .i64 k) ∧ w1.cell? ⟨w.heap.size, 3, none⟩ = some (.slice a1 n1 c1) ∧ w1.cell? ⟨w.heap.size, 5, none⟩ = some (.slice a2 n2 c2) ∧ w1.cell? ⟨w.heap.size, 6, none⟩ = some (.slice a3 n3 c3) := by
    intro w1 hb
    refine ⟨?_, ?_, ?_, ?_⟩
    all_goals
      rw [hb.cell (by simp)]
      simp
  have Hcell := Lib.hid hcell; clear hcell
  generalize bareV k n t n1 r n2 n3 = bb at *
  cases bb with
  | false =>
    rw [Bool.false_and]
    go_enter Tryd.func11, Tryd.ntmps11
    go_wp2_with fail
    refine (HB.out _).mono ?_
    rintro e w1 ⟨rfl, hb⟩
    go_wp2_with fail
    go_ret
    exact ⟨rfl, hb0.out.trans (hb.mono hb0.out.size)⟩
  | true =>
    rw [Bool.true_and]
    by_cases h0 : k = 0 ∨ k = 1 ∨ k = 2
    · rw [if_pos h0]
      rcases h0 with rfl | rfl | rfl
      all_goals
        go_enter Tryd.func11, Tryd.ntmps11
        go_wp2_with fail
        refine (HB.out _).mono ?_
        rintro e w1 ⟨rfl, hb⟩
        have hbw := Lib.hid (hb0.out.trans (hb.mono hb0.out.size))
        obtain ⟨c0, _⟩ := Hcell.out w1 (by simpa using hb)
        go_wp2_with fail
        go_ret
        exact ⟨rfl, hbw.out⟩
    · rw [if_neg h0]
      by_cases h3 : k = 3
      · subst h3
        rw [if_pos rfl]
        go_enter Tryd.func11, Tryd.ntmps11
        go_wp2_with fail
        refine (HB.out _).mono ?_
        rintro e w1 ⟨rfl, hb⟩
        have hbw := Lib.hid (hb0.out.trans (hb.mono hb0.out.size))
        obtain ⟨q0, q1, q2, q3⟩ := Hcell.out w1 (by simpa using hb)
        clear hb
        go_wp2_with fail
        refine (HF.out _ hbw.out).mono ?_
        rintro e w2 ⟨rfl, hb2⟩
        go_wp2_with fail
        go_ret
        exact ⟨rfl, hbw.out.trans (hb2.mono hbw.out.size)⟩
      · rw [if_neg h3]
        by_cases h4 : k = 4
        · subst h4
          rw [if_pos rfl]
          by_cases hz : 0 < n2
          · rw [decide_eq_true hz, Bool.true_and]
            go_enter Tryd.func11, Tryd.ntmps11
            go_wp2_with fail
            refine (HB.out _).mono ?_
            rintro e w1 ⟨rfl, hb⟩
            have hbw := Lib.hid (hb0.out.trans (hb.mono hb0.out.size))
            obtain ⟨q0, q1, q2, q3⟩ := Hcell.out w1 (by simpa using hb)
            clear hb
            have hz1 : decide (0 < n2) = true := decide_eq_true hz
            go_wp2_with fail
            refine (HL.out _ hbw.out).mono ?_
            rintro e w2 ⟨rfl, hb2⟩
            go_wp2_with fail
            go_ret
            exact ⟨ret_bool (by simp), hbw.out.trans (hb2.mono hbw.out.size)⟩
          · rw [decide_eq_false hz, Bool.false_and]
            go_enter Tryd.func11, Tryd.ntmps11
            go_wp2_with fail
            refine (HB.out _).mono ?_
            rintro e w1 ⟨rfl, hb⟩
            have hbw := Lib.hid (hb0.out.trans (hb.mono hb0.out.size))
            obtain ⟨q0, q1, q2, q3⟩ := Hcell.out w1 (by simpa using hb)
            clear hb
            obtain rfl : n2 = 0 := by omega
            go_wp2_with fail
            go_ret
            exact ⟨rfl, hbw.out⟩
        · rw [if_neg h4]
          by_cases h5 : k = 5
          · subst h5
            rw [if_pos rfl]
            go_enter Tryd.func11, Tryd.ntmps11
            go_wp2_with fail
            refine (HB.out _).mono ?_
            rintro e w1 ⟨rfl, hb⟩
            have hbw := Lib.hid (hb0.out.trans (hb.mono hb0.out.size))
            obtain ⟨q0, q1, q2, q3⟩ := Hcell.out w1 (by simpa using hb)
            clear hb
            go_wp2_with fail
            refine (HP.out _ hbw.out).mono ?_
            rintro e w2 ⟨rfl, hb2⟩
            go_wp2_with fail
            go_ret
            exact ⟨rfl, hbw.out.trans (hb2.mono hbw.out.size)⟩
          · rw [if_neg h5]
            have e0 : (k == 0) = false := by simp; omega
            have e1 : (k == 1) = false := by simp; omega
            have e2 : (k == 2) = false := by simp; omega
            have e3 : (k == 3) = false := by simp; omega
            have e4 : (k == 4) = false := by simp; omega
            have e5 : (k == 5) = false := by simp; omega
            clear h0 h3 h4 h5
            go_enter Tryd.func11, Tryd.ntmps11
            go_wp2_with fail
            refine (HB.out _).mono ?_
            rintro e w1 ⟨rfl, hb⟩
            have hbw := Lib.hid (hb0.out.trans (hb.mono hb0.out.size))
            obtain ⟨q0, q1, q2, q3⟩ := Hcell.out w1 (by simpa using hb)
            clear hb
            go_wp2_with fail
            go_ret
            exact ⟨rfl, hbw.out⟩

theorem right_at : ∀ N, RightAt N
  | 0 => fun x xc w h => by omega
  | N + 1 => right_step N (right_at N)
theorem right_any (x : V) (xc : List Value) (w : World) (hx : VR (frag w) x xc) :
    Calls Tryd.prog 11 #[.agg xc.toArray] w fun e w' => e = .returned (.bool (right x)) ∧ Below w.heap.size w w' :=
  right_at _ x xc w (Nat.lt_succ_self _) hx

end Go.Proofs.YtkldcjlkeblggaaDoor
