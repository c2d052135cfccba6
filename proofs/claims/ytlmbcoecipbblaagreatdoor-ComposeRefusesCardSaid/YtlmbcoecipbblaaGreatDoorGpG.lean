/- The tables' facts of values' types. cmp.Compare of integers and texts, cmp.Or. -/
import Derived.Test.YtlmbcoecipbblaaGreatDoorGpD
import Derived.Shelf.Abstract
set_option maxRecDepth 100000
set_option maxHeartbeats 4000000
set_option linter.unusedVariables false
set_option linter.unusedSimpArgs false
namespace Go.Proofs.YtlmbcoecipbblaaGreatDoor
open Go.RowKit
theorem sizeFld (w : World) : (Go.sizeOf (Tryz.prog.elem 23)).run Tryz.prog w = .ok 8 w := by kernel_rfl
theorem sizeVal (w : World) : (Go.sizeOf (Tryz.prog.elem 24)).run Tryz.prog w = .ok 7 w := by kernel_rfl
theorem sizePar (w : World) : (Go.sizeOf (Tryz.prog.elem 25)).run Tryz.prog w = .ok 14 w := by kernel_rfl
theorem list7 {α : Type} {l : List α} (h : l.length = 7) : ∃ a b c d e f g, l = [a, b, c, d, e, f, g] := by
 match l, h with
 | [a, b, c, d, e, f, g], _ => exact ⟨a, b, c, d, e, f, g, rfl⟩
open Val (ocmp orr scmp)
theorem isnan_int (k : Int) (w : World) : Calls Tryz.prog 73 #[.int .i64 k] w fun e w' => e = .returned (.bool false) ∧ w = w' := by
 go_enter Tryz.func73, Tryz.ntmps73
 go_wp2
 go_ret
 exact ⟨by simp, rfl⟩
theorem isnan_u64 (k : Int) (w : World) : Calls Tryz.prog 74 #[.int .u64 k] w fun e w' => e = .returned (.bool false) ∧ w = w' := by
 go_enter Tryz.func74, Tryz.ntmps74
 go_wp2
 go_ret
 exact ⟨by simp, rfl⟩
theorem isnan_str (k : ByteArray) (w : World) : Calls Tryz.prog 75 #[.string k] w fun e w' => e = .returned (.bool false) ∧ w = w' := by
 go_enter Tryz.func75, Tryz.ntmps75
 go_wp2
 go_ret
 exact ⟨by simp, rfl⟩
theorem cmp_int (a b : Int) (w : World) : Calls Tryz.prog 52 #[.int .i64 a, .int .i64 b] w fun e w' => e = .returned (.int .i64 (ocmp a b)) ∧ w = w' := by
 by_cases h1 : a < b
 ·go_enter Tryz.func52, Tryz.ntmps52
  go_wp2_with (go_at_call 73; refine (isnan_int _ _).mono ?_; rintro e w' ⟨rfl, rfl⟩)
  go_ret
  exact ⟨ret_int (by unfold ocmp; repeat' split
                     all_goals omega), rfl⟩
 ·by_cases h2 : b < a
  ·go_enter Tryz.func52, Tryz.ntmps52
   go_wp2_with (go_at_call 73; refine (isnan_int _ _).mono ?_; rintro e w' ⟨rfl, rfl⟩)
   go_ret
   exact ⟨ret_int (by unfold ocmp; repeat' split
                      all_goals omega), rfl⟩
  ·go_enter Tryz.func52, Tryz.ntmps52
   go_wp2_with (go_at_call 73; refine (isnan_int _ _).mono ?_; rintro e w' ⟨rfl, rfl⟩)
   go_ret
   exact ⟨ret_int (by unfold ocmp; repeat' split
                      all_goals omega), rfl⟩
theorem cmp_u64 (a b : Int) (w : World) : Calls Tryz.prog 53 #[.int .u64 a, .int .u64 b] w fun e w' => e = .returned (.int .i64 (ocmp a b)) ∧ w = w' := by
 by_cases h1 : a < b
 ·go_enter Tryz.func53, Tryz.ntmps53
  go_wp2_with (go_at_call 74; refine (isnan_u64 _ _).mono ?_; rintro e w' ⟨rfl, rfl⟩)
  go_ret
  exact ⟨ret_int (by unfold ocmp; repeat' split
                     all_goals omega), rfl⟩
 ·by_cases h2 : b < a
  ·go_enter Tryz.func53, Tryz.ntmps53
   go_wp2_with (go_at_call 74; refine (isnan_u64 _ _).mono ?_; rintro e w' ⟨rfl, rfl⟩)
   go_ret
   exact ⟨ret_int (by unfold ocmp; repeat' split
                      all_goals omega), rfl⟩
  ·go_enter Tryz.func53, Tryz.ntmps53
   go_wp2_with (go_at_call 74; refine (isnan_u64 _ _).mono ?_; rintro e w' ⟨rfl, rfl⟩)
   go_ret
   exact ⟨ret_int (by unfold ocmp; repeat' split
                      all_goals omega), rfl⟩
theorem cmp_str (a b : ByteArray) (w : World) : Calls Tryz.prog 54 #[.string a, .string b] w fun e w' => e = .returned (.int .i64 (scmp a b)) ∧ w = w' := by
 cases h1 : Op.bytesLess a.toList b.toList with
 | true =>
  have H1 := Yq h1
  go_enter Tryz.func54, Tryz.ntmps54
  go_wp2_with (go_at_call 75; refine (isnan_str _ _).mono ?_; rintro e w' ⟨rfl, rfl⟩)
  go_ret
  exact ⟨ret_int (by simp [scmp, H1.out]), rfl⟩
 | false =>
  have H1 := Yq h1
  cases h2 : (a.toList == b.toList) with
  | true =>
   have h3 : a.toList = b.toList := by simpa using h2
   have H3 := Yq h3; clear h3
   go_enter Tryz.func54, Tryz.ntmps54
   go_wp2_with (go_at_call 75; refine (isnan_str _ _).mono ?_; rintro e w' ⟨rfl, rfl⟩)
   go_ret
   exact ⟨ret_int (by unfold scmp; rw [H1.out, if_neg (by simp), if_pos H3.out]), rfl⟩
  | false =>
   have h3 : ¬ a.toList = b.toList := by simpa using h2
   have H3 := Yq h3; clear h3
   go_enter Tryz.func54, Tryz.ntmps54
   go_wp2_with (go_at_call 75; refine (isnan_str _ _).mono ?_; rintro e w' ⟨rfl, rfl⟩)
   go_ret
   exact ⟨ret_int (by simp [scmp, H1.out, H3.out]), rfl⟩
theorem or_any (x y : Int) (w : World) (g : Nat) (hg : g < w.heap.size) (h0 : w.cell? ⟨g, 0, none⟩ = some (.int .i64 x)) (h1 : w.cell? ⟨g, 1, none⟩ = some (.int .i64 y)) :
  Calls Tryz.prog 55 #[.slice (some ⟨g, 0, none⟩) 2 2] w fun e w' => e = .returned (.int .i64 (orr x y)) ∧ w = w' := by
 cases hx : (x != 0) with
 | true =>
  have hx' : ¬ x = 0 := by simpa using hx
  have HX := Yq hx'; clear hx'
  go_enter Tryz.func55, Tryz.ntmps55
  go_wp2
  refine wp_loop_rounds 1 ?_
  rw [rounds_succ]
  go_wp2
  go_ret
  exact ⟨ret_int (by simp [orr, HX.out]), rfl⟩
 | false =>
  have hx' : x = 0 := by simpa using hx
  have HX := Yq hx'; clear hx'
  cases hy : (y != 0) with
  | true =>
   go_enter Tryz.func55, Tryz.ntmps55
   go_wp2
   refine wp_loop_rounds 2 ?_
   rw [rounds_succ]
   go_wp2
   rw [rounds_succ]
   go_wp2
   go_ret
   exact ⟨ret_int (by simp [orr, HX.out]), rfl⟩
  | false =>
   have hy' : y = 0 := by simpa using hy
   have HY := Yq hy'; clear hy'
   go_enter Tryz.func55, Tryz.ntmps55
   go_wp2
   refine wp_loop_rounds 3 ?_
   rw [rounds_succ]
   go_wp2
   rw [rounds_succ]
   go_wp2
   rw [rounds_succ]
   go_wp2
   go_ret
   exact ⟨ret_int (by simp [orr, HX.out, HY.out]), rfl⟩
open Val (lexN)
def CFRel (w : World) (c : Nat → Int) (n : Nat) (m : Nat) (i : Value) (wr : World) : Prop :=
 ∃ k : Nat, k ≤ n ∧ k ≤ m ∧ i = .int .i64 k ∧ (∀ j, j < k → c j = 0) ∧ Below w.heap.size w wr
theorem comparefunc_val (es gs : List (List Value)) (c : Nat → Int) (v u : Value) (g : Nat) (w : World) (hv : FlatC 7 (frag w) v es) (hu : FlatC 7 (frag w) u gs) (hse : ∀ e ∈ es, Val7 e) (hsg : ∀ e ∈ gs, Val7 e)
  (hg : ∀ args wx, (callFunc g args).run Tryz.prog wx = .ok (.enter g args) wx)
  (hc : ∀ (i : Nat) (h1 : i < es.length) (h2 : i < gs.length) (wx : World), Below w.heap.size w wx → Calls Tryz.prog g #[.agg es[i].toArray, .agg gs[i].toArray] wx fun e w' => e = .returned (.int .i64 (c i)) ∧ Below wx.heap.size wx w') :
  Calls Tryz.prog 58 #[v, u, .func (.func g) #[] #[]] w fun e w' => e = .returned (.int .i64 (lexN c es.length gs.length)) ∧ Below w.heap.size w w' := by
 obtain ⟨a, cap, rfl, hc1, hc2, _⟩ := hv.len
 obtain ⟨a', cap', rfl, hc1', hc2', _⟩ := hu.len
 have HX := Yq hv; have HY := Yq hu; have HC := Yq hc; have HSE := Yq hse; have HSG := Yq hsg
 have Hend := Yq (Val.lexN_end c); have Hhit := Yq (Val.lexN_hit c)
 unfold maxLen at hc2 hc2'
 clear hv hu hc hse hsg
 obtain ⟨n, hn⟩ : ∃ n, n = es.length := ⟨_, rfl⟩
 obtain ⟨m, hm⟩ : ∃ m, m = gs.length := ⟨_, rfl⟩
 rw [← hn] at HX hc1 ⊢
 rw [← hm] at HY hc1' ⊢
 have Hn := Yq hn.symm; have Hm := Yq hm.symm; clear hn hm
 go_enter Tryz.func58, Tryz.ntmps58
 go_wp2_with fail
 go_loopw [13] (CFRel w c n m) (fun i _ => n - (intOf i).toNat)
 case atStart => exact ⟨0, Nat.zero_le _, Nat.zero_le _, rfl, fun j h => by omega, Below.refl _ _⟩
 case round =>
  obtain ⟨k, hk, hkm, rfl, hall, hbel⟩ := hrel
  have hsz := hbel.size
  have Hall := Yq hall; clear hall
  by_cases hlt : k < n
  ·have hks : k < es.length := by rw [Hn.out]; exact hlt
   obtain ⟨b0, o0, hb0, hidx, hcell⟩ := FlatC.at (n := n) (cap := cap) (a := a) HX.out (by decide) (i := k) hks Tryz.underlying24 sizeVal
   obtain ⟨xk, xn, xt, xr, xa1, xn1, xc1, xa2, xn2, xc2, xa3, xn3, xc3, hx⟩ := HSE.out es[k] (List.getElem_mem _)
   rw [hx] at hcell
   have c0 := (hbel.cell (p := ⟨b0, o0 + 0, none⟩) hb0).trans (hcell 0 _ rfl)
   have c1 := (hbel.cell (p := ⟨b0, o0 + 1, none⟩) hb0).trans (hcell 1 _ rfl)
   have c2 := (hbel.cell (p := ⟨b0, o0 + 2, none⟩) hb0).trans (hcell 2 _ rfl)
   have c3 := (hbel.cell (p := ⟨b0, o0 + 3, none⟩) hb0).trans (hcell 3 _ rfl)
   have c4 := (hbel.cell (p := ⟨b0, o0 + 4, none⟩) hb0).trans (hcell 4 _ rfl)
   have c5 := (hbel.cell (p := ⟨b0, o0 + 5, none⟩) hb0).trans (hcell 5 _ rfl)
   have c6 := (hbel.cell (p := ⟨b0, o0 + 6, none⟩) hb0).trans (hcell 6 _ rfl)
   rw [Nat.add_zero] at c0
   clear hcell
   have Hx := Yq hx; clear hx
   by_cases hlm : k < m
   ·have hks' : k < gs.length := by rw [Hm.out]; exact hlm
    obtain ⟨b1, o1, hb1, hidx1, hcell1⟩ := FlatC.at (n := m) (cap := cap') (a := a') HY.out (by decide) (i := k) hks' Tryz.underlying24 sizeVal
    obtain ⟨yk, yn, yt, yr, ya1, yn1, yc1, ya2, yn2, yc2, ya3, yn3, yc3, hy⟩ := HSG.out gs[k] (List.getElem_mem _)
    rw [hy] at hcell1
    have hbx : Below w.heap.size w (wr.alloc (.cells #[.int .i64 xk, .int .u64 xn, .string xt, .slice xa1 xn1 xc1, .string xr, .slice xa2 xn2 xc2, .slice xa3 xn3 xc3] 27)) := hbel.alloc hsz _
    have d0 := (hbx.cell (p := ⟨b1, o1 + 0, none⟩) hb1).trans (hcell1 0 _ rfl)
    have d1 := (hbx.cell (p := ⟨b1, o1 + 1, none⟩) hb1).trans (hcell1 1 _ rfl)
    have d2 := (hbx.cell (p := ⟨b1, o1 + 2, none⟩) hb1).trans (hcell1 2 _ rfl)
    have d3 := (hbx.cell (p := ⟨b1, o1 + 3, none⟩) hb1).trans (hcell1 3 _ rfl)
    have d4 := (hbx.cell (p := ⟨b1, o1 + 4, none⟩) hb1).trans (hcell1 4 _ rfl)
    have d5 := (hbx.cell (p := ⟨b1, o1 + 5, none⟩) hb1).trans (hcell1 5 _ rfl)
    have d6 := (hbx.cell (p := ⟨b1, o1 + 6, none⟩) hb1).trans (hcell1 6 _ rfl)
    rw [Nat.add_zero] at d0
    clear hcell1
    have hby := hbx.alloc (by simp; omega) (.cells #[.int .i64 yk, .int .u64 yn, .string yt, .slice ya1 yn1 yc1, .string yr, .slice ya2 yn2 yc2, .slice ya3 yn3 yc3] 27)
    have hcall := HC.out k hks hks' _ hby
    rw [Hx.out, hy] at hcall
    have Hcall := Yq hcall; have Hby := Yq hby
    clear hcall hby hbx hy
    cases hz : (c k != 0) with
    | true =>
     have Hz : Hid (¬ c k = 0) := by show ¬ _; simpa using hz
     go_wp2_with fail
     go_at_fn g
     refine Hcall.out.mono ?_
     rintro e w' ⟨rfl, hb'⟩
     go_wp2_with fail
     go_ret
     exact ⟨ret_int (Hhit.out n m k hlt hlm Hall.out Hz.out).symm, Hby.out.trans (hb'.mono Hby.out.size)⟩
    | false =>
     have Hz : Hid (c k = 0) := by show _ = _; simpa using hz
     go_wp2_with fail
     go_at_fn g
     refine Hcall.out.mono ?_
     rintro e w' ⟨rfl, hb'⟩
     go_wp2_with fail
     go_roundw
     case rel =>
      refine ⟨k + 1, hlt, hlm, by simp, fun j hj => ?_, Hby.out.trans (hb'.mono Hby.out.size)⟩
      by_cases e : j = k
      ·subst e; exact Hz.out
      ·exact Hall.out j (by omega)
     case measure => simp [intOf]; omega
   ·go_wp2_with fail
    go_ret
    refine ⟨ret_int ?_, hbel.alloc hsz _⟩
    rw [Hend.out n m (fun j h1 h2 => Hall.out j (by omega)), if_neg (by omega), if_pos (by omega)]
  ·by_cases hnm : n < m
   ·go_wp2_with fail
    go_ret
    refine ⟨ret_int ?_, hbel⟩
    rw [Hend.out n m (fun j h1 h2 => Hall.out j (by omega)), if_pos (by omega)]
   ·go_wp2_with fail
    go_ret
    refine ⟨ret_int ?_, hbel⟩
    rw [Hend.out n m (fun j h1 h2 => Hall.out j (by omega)), if_neg (by omega), if_neg (by omega)]
theorem comparefunc_fld (es gs : List (List Value)) (c : Nat → Int) (v u : Value) (g : Nat) (w : World) (hv : FlatC 8 (frag w) v es) (hu : FlatC 8 (frag w) u gs) (hse : ∀ e ∈ es, Fld8 e) (hsg : ∀ e ∈ gs, Fld8 e)
  (hg : ∀ args wx, (callFunc g args).run Tryz.prog wx = .ok (.enter g args) wx)
  (hc : ∀ (i : Nat) (h1 : i < es.length) (h2 : i < gs.length) (wx : World), Below w.heap.size w wx → Calls Tryz.prog g #[.agg es[i].toArray, .agg gs[i].toArray] wx fun e w' => e = .returned (.int .i64 (c i)) ∧ Below wx.heap.size wx w') :
  Calls Tryz.prog 56 #[v, u, .func (.func g) #[] #[]] w fun e w' => e = .returned (.int .i64 (lexN c es.length gs.length)) ∧ Below w.heap.size w w' := by
 obtain ⟨a, cap, rfl, hc1, hc2, _⟩ := hv.len
 obtain ⟨a', cap', rfl, hc1', hc2', _⟩ := hu.len
 have HX := Yq hv; have HY := Yq hu; have HC := Yq hc; have HSE := Yq hse; have HSG := Yq hsg
 have Hend := Yq (Val.lexN_end c); have Hhit := Yq (Val.lexN_hit c)
 unfold maxLen at hc2 hc2'
 clear hv hu hc hse hsg
 obtain ⟨n, hn⟩ : ∃ n, n = es.length := ⟨_, rfl⟩
 obtain ⟨m, hm⟩ : ∃ m, m = gs.length := ⟨_, rfl⟩
 rw [← hn] at HX hc1 ⊢
 rw [← hm] at HY hc1' ⊢
 have Hn := Yq hn.symm; have Hm := Yq hm.symm; clear hn hm
 go_enter Tryz.func56, Tryz.ntmps56
 go_wp2_with fail
 go_loopw [13] (CFRel w c n m) (fun i _ => n - (intOf i).toNat)
 case atStart => exact ⟨0, Nat.zero_le _, Nat.zero_le _, rfl, fun j h => by omega, Below.refl _ _⟩
 case round =>
  obtain ⟨k, hk, hkm, rfl, hall, hbel⟩ := hrel
  have hsz := hbel.size
  have Hall := Yq hall; clear hall
  by_cases hlt : k < n
  ·have hks : k < es.length := by rw [Hn.out]; exact hlt
   obtain ⟨b0, o0, hb0, hidx, hcell⟩ := FlatC.at (n := n) (cap := cap) (a := a) HX.out (by decide) (i := k) hks Tryz.underlying23 sizeFld
   obtain ⟨xm, _, ⟨xk, xn, xt, xr, xa1, xn1, xc1, xa2, xn2, xc2, xa3, xn3, xc3, rfl⟩, hx⟩ := HSE.out es[k] (List.getElem_mem _)
   rw [hx] at hcell
   have c0 := (hbel.cell (p := ⟨b0, o0 + 0, none⟩) hb0).trans (hcell 0 _ rfl)
   have c1 := (hbel.cell (p := ⟨b0, o0 + 1, none⟩) hb0).trans (hcell 1 _ rfl)
   have c2 := (hbel.cell (p := ⟨b0, o0 + 2, none⟩) hb0).trans (hcell 2 _ rfl)
   have c3 := (hbel.cell (p := ⟨b0, o0 + 3, none⟩) hb0).trans (hcell 3 _ rfl)
   have c4 := (hbel.cell (p := ⟨b0, o0 + 4, none⟩) hb0).trans (hcell 4 _ rfl)
   have c5 := (hbel.cell (p := ⟨b0, o0 + 5, none⟩) hb0).trans (hcell 5 _ rfl)
   have c6 := (hbel.cell (p := ⟨b0, o0 + 6, none⟩) hb0).trans (hcell 6 _ rfl)
   have c7 := (hbel.cell (p := ⟨b0, o0 + 7, none⟩) hb0).trans (hcell 7 _ rfl)
   rw [Nat.add_zero] at c0
   clear hcell
   have Hx := Yq hx; clear hx
   by_cases hlm : k < m
   ·have hks' : k < gs.length := by rw [Hm.out]; exact hlm
    obtain ⟨b1, o1, hb1, hidx1, hcell1⟩ := FlatC.at (n := m) (cap := cap') (a := a') HY.out (by decide) (i := k) hks' Tryz.underlying23 sizeFld
    obtain ⟨ym, _, ⟨yk, yn, yt, yr, ya1, yn1, yc1, ya2, yn2, yc2, ya3, yn3, yc3, rfl⟩, hy⟩ := HSG.out gs[k] (List.getElem_mem _)
    rw [hy] at hcell1
    have hbx : Below w.heap.size w (wr.alloc (.cells #[.int .i64 xm, .int .i64 xk, .int .u64 xn, .string xt, .slice xa1 xn1 xc1, .string xr, .slice xa2 xn2 xc2, .slice xa3 xn3 xc3] 93)) := hbel.alloc hsz _
    have d0 := (hbx.cell (p := ⟨b1, o1 + 0, none⟩) hb1).trans (hcell1 0 _ rfl)
    have d1 := (hbx.cell (p := ⟨b1, o1 + 1, none⟩) hb1).trans (hcell1 1 _ rfl)
    have d2 := (hbx.cell (p := ⟨b1, o1 + 2, none⟩) hb1).trans (hcell1 2 _ rfl)
    have d3 := (hbx.cell (p := ⟨b1, o1 + 3, none⟩) hb1).trans (hcell1 3 _ rfl)
    have d4 := (hbx.cell (p := ⟨b1, o1 + 4, none⟩) hb1).trans (hcell1 4 _ rfl)
    have d5 := (hbx.cell (p := ⟨b1, o1 + 5, none⟩) hb1).trans (hcell1 5 _ rfl)
    have d6 := (hbx.cell (p := ⟨b1, o1 + 6, none⟩) hb1).trans (hcell1 6 _ rfl)
    have d7 := (hbx.cell (p := ⟨b1, o1 + 7, none⟩) hb1).trans (hcell1 7 _ rfl)
    rw [Nat.add_zero] at d0
    clear hcell1
    have hby := hbx.alloc (by simp; omega) (.cells #[.int .i64 ym, .int .i64 yk, .int .u64 yn, .string yt, .slice ya1 yn1 yc1, .string yr, .slice ya2 yn2 yc2, .slice ya3 yn3 yc3] 93)
    have hcall := HC.out k hks hks' _ hby
    rw [Hx.out, hy] at hcall
    have Hcall := Yq hcall; have Hby := Yq hby
    clear hcall hby hbx hy
    cases hz : (c k != 0) with
    | true =>
     have Hz : Hid (¬ c k = 0) := by show ¬ _; simpa using hz
     go_wp2_with fail
     go_at_fn g
     refine Hcall.out.mono ?_
     rintro e w' ⟨rfl, hb'⟩
     go_wp2_with fail
     go_ret
     exact ⟨ret_int (Hhit.out n m k hlt hlm Hall.out Hz.out).symm, Hby.out.trans (hb'.mono Hby.out.size)⟩
    | false =>
     have Hz : Hid (c k = 0) := by show _ = _; simpa using hz
     go_wp2_with fail
     go_at_fn g
     refine Hcall.out.mono ?_
     rintro e w' ⟨rfl, hb'⟩
     go_wp2_with fail
     go_roundw
     case rel =>
      refine ⟨k + 1, hlt, hlm, by simp, fun j hj => ?_, Hby.out.trans (hb'.mono Hby.out.size)⟩
      by_cases e : j = k
      ·subst e; exact Hz.out
      ·exact Hall.out j (by omega)
     case measure => simp [intOf]; omega
   ·go_wp2_with fail
    go_ret
    refine ⟨ret_int ?_, hbel.alloc hsz _⟩
    rw [Hend.out n m (fun j h1 h2 => Hall.out j (by omega)), if_neg (by omega), if_pos (by omega)]
  ·by_cases hnm : n < m
   ·go_wp2_with fail
    go_ret
    refine ⟨ret_int ?_, hbel⟩
    rw [Hend.out n m (fun j h1 h2 => Hall.out j (by omega)), if_pos (by omega)]
   ·go_wp2_with fail
    go_ret
    refine ⟨ret_int ?_, hbel⟩
    rw [Hend.out n m (fun j h1 h2 => Hall.out j (by omega)), if_neg (by omega), if_neg (by omega)]
theorem comparefunc_par (es gs : List (List Value)) (c : Nat → Int) (v u : Value) (g : Nat) (w : World) (hv : FlatC 14 (frag w) v es) (hu : FlatC 14 (frag w) u gs) (hse : ∀ e ∈ es, Par14 e) (hsg : ∀ e ∈ gs, Par14 e)
  (hg : ∀ args wx, (callFunc g args).run Tryz.prog wx = .ok (.enter g args) wx)
  (hc : ∀ (i : Nat) (h1 : i < es.length) (h2 : i < gs.length) (wx : World), Below w.heap.size w wx → Calls Tryz.prog g #[.agg es[i].toArray, .agg gs[i].toArray] wx fun e w' => e = .returned (.int .i64 (c i)) ∧ Below wx.heap.size wx w') :
  Calls Tryz.prog 59 #[v, u, .func (.func g) #[] #[]] w fun e w' => e = .returned (.int .i64 (lexN c es.length gs.length)) ∧ Below w.heap.size w w' := by
 obtain ⟨a, cap, rfl, hc1, hc2, _⟩ := hv.len
 obtain ⟨a', cap', rfl, hc1', hc2', _⟩ := hu.len
 have HX := Yq hv; have HY := Yq hu; have HC := Yq hc; have HSE := Yq hse; have HSG := Yq hsg
 have Hend := Yq (Val.lexN_end c); have Hhit := Yq (Val.lexN_hit c)
 unfold maxLen at hc2 hc2'
 clear hv hu hc hse hsg
 obtain ⟨n, hn⟩ : ∃ n, n = es.length := ⟨_, rfl⟩
 obtain ⟨m, hm⟩ : ∃ m, m = gs.length := ⟨_, rfl⟩
 rw [← hn] at HX hc1 ⊢
 rw [← hm] at HY hc1' ⊢
 have Hn := Yq hn.symm; have Hm := Yq hm.symm; clear hn hm
 go_enter Tryz.func59, Tryz.ntmps59
 go_wp2_with fail
 go_loopw [13] (CFRel w c n m) (fun i _ => n - (intOf i).toNat)
 case atStart => exact ⟨0, Nat.zero_le _, Nat.zero_le _, rfl, fun j h => by omega, Below.refl _ _⟩
 case round =>
  obtain ⟨k, hk, hkm, rfl, hall, hbel⟩ := hrel
  have hsz := hbel.size
  have Hall := Yq hall; clear hall
  by_cases hlt : k < n
  ·have hks : k < es.length := by rw [Hn.out]; exact hlt
   obtain ⟨b0, o0, hb0, hidx, hcell⟩ := FlatC.at (n := n) (cap := cap) (a := a) HX.out (by decide) (i := k) hks Tryz.underlying25 sizePar
   obtain ⟨_, _, ⟨xpk, xpn, xpt, xpr, xpa1, xpn1, xpc1, xpa2, xpn2, xpc2, xpa3, xpn3, xpc3, rfl⟩, ⟨xqk, xqn, xqt, xqr, xqa1, xqn1, xqc1, xqa2, xqn2, xqc2, xqa3, xqn3, xqc3, rfl⟩, hx⟩ := HSE.out es[k] (List.getElem_mem _)
   simp only [List.cons_append, List.nil_append] at hx
   rw [hx] at hcell
   have c0 := (hbel.cell (p := ⟨b0, o0 + 0, none⟩) hb0).trans (hcell 0 _ rfl)
   have c1 := (hbel.cell (p := ⟨b0, o0 + 1, none⟩) hb0).trans (hcell 1 _ rfl)
   have c2 := (hbel.cell (p := ⟨b0, o0 + 2, none⟩) hb0).trans (hcell 2 _ rfl)
   have c3 := (hbel.cell (p := ⟨b0, o0 + 3, none⟩) hb0).trans (hcell 3 _ rfl)
   have c4 := (hbel.cell (p := ⟨b0, o0 + 4, none⟩) hb0).trans (hcell 4 _ rfl)
   have c5 := (hbel.cell (p := ⟨b0, o0 + 5, none⟩) hb0).trans (hcell 5 _ rfl)
   have c6 := (hbel.cell (p := ⟨b0, o0 + 6, none⟩) hb0).trans (hcell 6 _ rfl)
   have c7 := (hbel.cell (p := ⟨b0, o0 + 7, none⟩) hb0).trans (hcell 7 _ rfl)
   have c8 := (hbel.cell (p := ⟨b0, o0 + 8, none⟩) hb0).trans (hcell 8 _ rfl)
   have c9 := (hbel.cell (p := ⟨b0, o0 + 9, none⟩) hb0).trans (hcell 9 _ rfl)
   have c10 := (hbel.cell (p := ⟨b0, o0 + 10, none⟩) hb0).trans (hcell 10 _ rfl)
   have c11 := (hbel.cell (p := ⟨b0, o0 + 11, none⟩) hb0).trans (hcell 11 _ rfl)
   have c12 := (hbel.cell (p := ⟨b0, o0 + 12, none⟩) hb0).trans (hcell 12 _ rfl)
   have c13 := (hbel.cell (p := ⟨b0, o0 + 13, none⟩) hb0).trans (hcell 13 _ rfl)
   rw [Nat.add_zero] at c0
   clear hcell
   have Hx := Yq hx; clear hx
   by_cases hlm : k < m
   ·have hks' : k < gs.length := by rw [Hm.out]; exact hlm
    obtain ⟨b1, o1, hb1, hidx1, hcell1⟩ := FlatC.at (n := m) (cap := cap') (a := a') HY.out (by decide) (i := k) hks' Tryz.underlying25 sizePar
    obtain ⟨_, _, ⟨ypk, ypn, ypt, ypr, ypa1, ypn1, ypc1, ypa2, ypn2, ypc2, ypa3, ypn3, ypc3, rfl⟩, ⟨yqk, yqn, yqt, yqr, yqa1, yqn1, yqc1, yqa2, yqn2, yqc2, yqa3, yqn3, yqc3, rfl⟩, hy⟩ := HSG.out gs[k] (List.getElem_mem _)
    simp only [List.cons_append, List.nil_append] at hy
    rw [hy] at hcell1
    have hbx : Below w.heap.size w (wr.alloc (.cells #[.int .i64 xpk, .int .u64 xpn, .string xpt, .slice xpa1 xpn1 xpc1, .string xpr, .slice xpa2 xpn2 xpc2, .slice xpa3 xpn3 xpc3, .int .i64 xqk, .int .u64 xqn, .string xqt, .slice xqa1 xqn1 xqc1, .string xqr, .slice xqa2 xqn2 xqc2, .slice xqa3 xqn3 xqc3] 97)) := hbel.alloc hsz _
    have d0 := (hbx.cell (p := ⟨b1, o1 + 0, none⟩) hb1).trans (hcell1 0 _ rfl)
    have d1 := (hbx.cell (p := ⟨b1, o1 + 1, none⟩) hb1).trans (hcell1 1 _ rfl)
    have d2 := (hbx.cell (p := ⟨b1, o1 + 2, none⟩) hb1).trans (hcell1 2 _ rfl)
    have d3 := (hbx.cell (p := ⟨b1, o1 + 3, none⟩) hb1).trans (hcell1 3 _ rfl)
    have d4 := (hbx.cell (p := ⟨b1, o1 + 4, none⟩) hb1).trans (hcell1 4 _ rfl)
    have d5 := (hbx.cell (p := ⟨b1, o1 + 5, none⟩) hb1).trans (hcell1 5 _ rfl)
    have d6 := (hbx.cell (p := ⟨b1, o1 + 6, none⟩) hb1).trans (hcell1 6 _ rfl)
    have d7 := (hbx.cell (p := ⟨b1, o1 + 7, none⟩) hb1).trans (hcell1 7 _ rfl)
    have d8 := (hbx.cell (p := ⟨b1, o1 + 8, none⟩) hb1).trans (hcell1 8 _ rfl)
    have d9 := (hbx.cell (p := ⟨b1, o1 + 9, none⟩) hb1).trans (hcell1 9 _ rfl)
    have d10 := (hbx.cell (p := ⟨b1, o1 + 10, none⟩) hb1).trans (hcell1 10 _ rfl)
    have d11 := (hbx.cell (p := ⟨b1, o1 + 11, none⟩) hb1).trans (hcell1 11 _ rfl)
    have d12 := (hbx.cell (p := ⟨b1, o1 + 12, none⟩) hb1).trans (hcell1 12 _ rfl)
    have d13 := (hbx.cell (p := ⟨b1, o1 + 13, none⟩) hb1).trans (hcell1 13 _ rfl)
    rw [Nat.add_zero] at d0
    clear hcell1
    have hby := hbx.alloc (by simp; omega) (.cells #[.int .i64 ypk, .int .u64 ypn, .string ypt, .slice ypa1 ypn1 ypc1, .string ypr, .slice ypa2 ypn2 ypc2, .slice ypa3 ypn3 ypc3, .int .i64 yqk, .int .u64 yqn, .string yqt, .slice yqa1 yqn1 yqc1, .string yqr, .slice yqa2 yqn2 yqc2, .slice yqa3 yqn3 yqc3] 97)
    have hcall := HC.out k hks hks' _ hby
    rw [Hx.out, hy] at hcall
    have Hcall := Yq hcall; have Hby := Yq hby
    clear hcall hby hbx hy
    cases hz : (c k != 0) with
    | true =>
     have Hz : Hid (¬ c k = 0) := by show ¬ _; simpa using hz
     go_wp2_with fail
     go_at_fn g
     refine Hcall.out.mono ?_
     rintro e w' ⟨rfl, hb'⟩
     go_wp2_with fail
     go_ret
     exact ⟨ret_int (Hhit.out n m k hlt hlm Hall.out Hz.out).symm, Hby.out.trans (hb'.mono Hby.out.size)⟩
    | false =>
     have Hz : Hid (c k = 0) := by show _ = _; simpa using hz
     go_wp2_with fail
     go_at_fn g
     refine Hcall.out.mono ?_
     rintro e w' ⟨rfl, hb'⟩
     go_wp2_with fail
     go_roundw
     case rel =>
      refine ⟨k + 1, hlt, hlm, by simp, fun j hj => ?_, Hby.out.trans (hb'.mono Hby.out.size)⟩
      by_cases e : j = k
      ·subst e; exact Hz.out
      ·exact Hall.out j (by omega)
     case measure => simp [intOf]; omega
   ·go_wp2_with fail
    go_ret
    refine ⟨ret_int ?_, hbel.alloc hsz _⟩
    rw [Hend.out n m (fun j h1 h2 => Hall.out j (by omega)), if_neg (by omega), if_pos (by omega)]
  ·by_cases hnm : n < m
   ·go_wp2_with fail
    go_ret
    refine ⟨ret_int ?_, hbel⟩
    rw [Hend.out n m (fun j h1 h2 => Hall.out j (by omega)), if_pos (by omega)]
   ·go_wp2_with fail
    go_ret
    refine ⟨ret_int ?_, hbel⟩
    rw [Hend.out n m (fun j h1 h2 => Hall.out j (by omega)), if_neg (by omega), if_neg (by omega)]
end Go.Proofs.YtlmbcoecipbblaaGreatDoor
