/- Plain facts: which values are right. value.Right, walked. -/
import Derived.Test.YtebekgdjknenlaaGreatDoorGpAD
set_option maxRecDepth 100000
set_option maxHeartbeats 4000000
set_option linter.unusedVariables false
set_option linter.unusedSimpArgs false
namespace Go.Proofs.YtebekgdjknenlaaGreatDoor.Val
def bareV (k n : Int) (t : ByteArray) (nf : Nat) (r : ByteArray) (nl np : Nat) : Bool :=
 decide ((k = 1 ∨ n = 0) ∧ (k = 2 ∨ t.size = 0) ∧ (k = 3 ∨ nf = 0) ∧ (k = 3 ∨ r.size = 0) ∧ (k = 4 ∨ nl = 0) ∧ (k = 5 ∨ np = 0))
mutual
def right : V → Bool
 | .mk k n t fs r l ps => bareV k n t fs.length r l.length ps.length &&
   (if k = 0 ∨ k = 1 ∨ k = 2 then true else if k = 3 then rightF 0 fs else if k = 4 then decide (0 < l.length) && rightL l else if k = 5 then decide (0 < ps.length) && rightP none ps else false)
def rightF (last : Int) : List (Int × V) → Bool
 | [] => true
 | (n, v) :: r => decide (last < n ∧ n ≤ 536870911 ∧ v.kind ≠ 0) && right v && rightF n r
def rightL : List V → Bool
 | [] => true
 | v :: r => decide (1 ≤ v.kind ∧ v.kind ≤ 3) && right v && rightL r
def rightP (last : Option V) : List (V × V) → Bool
 | [] => true
 | (k, v) :: r => decide (k.kind = 1 ∨ k.kind = 2) && right k && (decide (1 ≤ v.kind ∧ v.kind ≤ 3) && right v) && (match last with | none => true | some p => decide (p.kind = k.kind) && decide (cmp p k < 0)) && rightP (some k) r
end
def partB (v : V) : Bool := decide (1 ≤ v.kind ∧ v.kind ≤ 3) && right v
theorem rightL_all : ∀ l : List V, rightL l = l.all partB
 | [] => by simp [rightL]
 | v :: r => by rw [rightL, rightL_all r]; rfl
def lastF (fs : List (Int × V)) (k : Nat) : Int := if k = 0 then 0 else (fs.getD (k - 1) (0, v0)).1
theorem lastF_succ {fs : List (Int × V)} {k : Nat} (h : k < fs.length) : lastF fs (k + 1) = fs[k].1 := by simp [lastF, h]
def lastP (ps : List (V × V)) (k : Nat) : Option V := if k = 0 then none else some (ps.getD (k - 1) (v0, v0)).1
theorem lastP_succ {ps : List (V × V)} {k : Nat} (h : k < ps.length) : lastP ps (k + 1) = some ps[k].1 := by simp [lastP, h]
theorem rightF_drop {fs : List (Int × V)} {k : Nat} {m : Int} (h : k < fs.length) : rightF m (fs.drop k) = (decide (m < fs[k].1 ∧ fs[k].1 ≤ 536870911 ∧ fs[k].2.kind ≠ 0) && right fs[k].2 && rightF fs[k].1 (fs.drop (k + 1))) := by
 rw [List.drop_eq_getElem_cons h]
 cases fs[k]
 rw [rightF]
theorem rightP_drop {ps : List (V × V)} {k : Nat} {m : Option V} (h : k < ps.length) : rightP m (ps.drop k) = (decide (ps[k].1.kind = 1 ∨ ps[k].1.kind = 2) && right ps[k].1 && (decide (1 ≤ ps[k].2.kind ∧ ps[k].2.kind ≤ 3) && right ps[k].2) && (match m with | none => true | some p => decide (p.kind = ps[k].1.kind) && decide (cmp p ps[k].1 < 0)) && rightP (some ps[k].1) (ps.drop (k + 1))) := by
 rw [List.drop_eq_getElem_cons h]
 cases ps[k]
 conv => lhs; rw [rightP.eq_def]
end Go.Proofs.YtebekgdjknenlaaGreatDoor.Val
namespace Go.Proofs.YtebekgdjknenlaaGreatDoor
open Go.RowKit
open Val (V cmp right rightF rightL rightP bareV partB lastF lastP)
theorem VR.shapeK {h : Frag} {x : V} {cs : List Value} (hv : VR h x cs) : ∃ (n : Int) (t r : ByteArray) (a1 : Option Addr) (n1 c1 : Nat) (a2 : Option Addr) (n2 c2 : Nat) (a3 : Option Addr) (n3 c3 : Nat),
  cs = [.int .i64 x.kind, .int .u64 n, .string t, .slice a1 n1 c1, .string r, .slice a2 n2 c2, .slice a3 n3 c3] := by
 cases x
 rw [VR] at hv
 obtain ⟨fv, lv, pv, fe, le, pe, rfl, _, ⟨h1, h2, h3⟩, _⟩ := hv
 obtain ⟨a1, c1, rfl, _⟩ := h1.len
 obtain ⟨a2, c2, rfl, _⟩ := h2.len
 obtain ⟨a3, c3, rfl, _⟩ := h3.len
 exact ⟨_, _, _, _, _, _, _, _, _, _, _, _, rfl⟩
theorem bareB_eq (k n : Int) (t r : ByteArray) (nf nl np : Nat) : bareB k n t nf r nl np = bareV k n t nf r nl np := by
 have h1 : (ownN k n = 0) ↔ (k = 1 ∨ n = 0) := by unfold ownN; split <;> simp [*]
 have h2 : ((ownT 2 k t).size = 0) ↔ (k = 2 ∨ t.size = 0) := by
  unfold ownT; by_cases h : k = 2
  ·rw [if_pos h]; exact ⟨fun _ => .inl h, fun _ => rfl⟩
  ·rw [if_neg h]; exact ⟨.inr, fun e => e.resolve_left h⟩
 have h3 : ((ownT 3 k r).size = 0) ↔ (k = 3 ∨ r.size = 0) := by
  unfold ownT; by_cases h : k = 3
  ·rw [if_pos h]; exact ⟨fun _ => .inl h, fun _ => rfl⟩
  ·rw [if_neg h]; exact ⟨.inr, fun e => e.resolve_left h⟩
 unfold bareB bareV
 simp only [h1, h2, h3, ← Bool.decide_and]
def RightAt (N : Nat) : Prop := ∀ (x : V) (xc : List Value) (w : World), SizeOf.sizeOf x < N → VR (frag w) x xc →
 Calls Tryz.prog 18 #[.agg xc.toArray] w fun e w' => e = .returned (.bool (right x)) ∧ Below w.heap.size w w'
theorem part_at (N : Nat) (ih : RightAt N) (x : V) (xc : List Value) (w : World) (hs : SizeOf.sizeOf x < N) (hx : VR (frag w) x xc) :
  Calls Tryz.prog 36 #[.agg xc.toArray] w fun e w' => e = .returned (.bool (partB x)) ∧ Below w.heap.size w w' := by
 have HI := Yq (fun (wx : World) (hb : Below w.heap.size w wx) => ih x xc wx hs (hx.mono (below_le hb)))
 have hP : partB x = (decide (1 ≤ x.kind ∧ x.kind ≤ 3) && right x) := rfl
 rw [hP]
 obtain ⟨xn, xt, xr, xa1, xn1, xc1, xa2, xn2, xc2, xa3, xn3, xc3, rfl⟩ := hx.shapeK
 clear hx ih hP
 generalize x.kind = k at *
 have hb0 := Yq ((Below.refl w.heap.size w).alloc (Nat.le_refl _) (.cells #[.int .i64 k, .int .u64 xn, .string xt, .slice xa1 xn1 xc1, .string xr, .slice xa2 xn2 xc2, .slice xa3 xn3 xc3] 27))
 by_cases h1 : 1 ≤ k
 ·by_cases h3 : k ≤ 3
  ·go_enter Tryz.func36, Tryz.ntmps36
   go_wp2_with fail
   refine (HI.out _ hb0.out).mono ?_
   rintro e w' ⟨rfl, hb⟩
   go_wp2_with fail
   go_ret
   exact ⟨ret_bool (by rw [decide_eq_true (show 1 ≤ k ∧ k ≤ 3 from ⟨by omega, by omega⟩)]; simp), hb0.out.trans (hb.mono hb0.out.size)⟩
  ·have h3' : decide (k ≤ 3) = false := by simpa using h3
   go_enter Tryz.func36, Tryz.ntmps36
   go_wp2_with fail
   go_ret
   exact ⟨ret_bool (by first | rfl | (rw [decide_eq_false (by omega)]; simp)), hb0.out⟩
 ·have h1' : decide (1 ≤ k) = false := by simpa using h1
  go_enter Tryz.func36, Tryz.ntmps36
  go_wp2_with fail
  go_ret
  exact ⟨ret_bool (by first | rfl | (rw [decide_eq_false (by omega)]; simp)), hb0.out⟩
theorem right1_at (N : Nat) (ih : RightAt N) (x : V) (xc : List Value) (w : World) (hs : SizeOf.sizeOf x < N) (hx : VR (frag w) x xc) :
  Calls Tryz.prog 35 #[.agg xc.toArray] w fun e w' => e = .returned (.bool (!partB x)) ∧ Below w.heap.size w w' := by
 have HI := Yq (fun (wx : World) (hb : Below w.heap.size w wx) => part_at N ih x xc wx hs (hx.mono (below_le hb)))
 obtain ⟨xk, xn, xt, xr, xa1, xn1, xc1, xa2, xn2, xc2, xa3, xn3, xc3, rfl⟩ := hx.shape
 clear hx ih
 generalize partB x = p at *
 have hb0 := Yq ((Below.refl w.heap.size w).alloc (Nat.le_refl _) (.cells #[.int .i64 xk, .int .u64 xn, .string xt, .slice xa1 xn1 xc1, .string xr, .slice xa2 xn2 xc2, .slice xa3 xn3 xc3] 27))
 go_enter Tryz.func35, Tryz.ntmps35
 go_wp2_with fail
 refine (HI.out _ hb0.out).mono ?_
 rintro e w' ⟨rfl, hb⟩
 go_wp2_with fail
 go_ret
 exact ⟨rfl, hb0.out.trans (hb.mono hb0.out.size)⟩
theorem fields_at (N : Nat) (ih : RightAt N) (fs : List (Int × V)) (fe : List (List Value)) (v : Value) (w : World) (hs : ∀ e ∈ fs, SizeOf.sizeOf e.2 < N) (hv : FlatC 8 (frag w) v fe) (hf : FsR (frag w) fs fe) :
  Calls Tryz.prog 33 #[v] w fun e w' => e = .returned (.bool (rightF 0 fs)) ∧ Below w.heap.size w w' := by
 obtain ⟨a, cap, rfl, hc1, hc2, _⟩ := hv.len
 have HX := Yq hv; have HF := Yq hf; have HS := Yq hs
 have hlen := hf.len
 unfold maxLen at hc2
 clear hv hf hs
 obtain ⟨n, hn⟩ : ∃ n, n = fe.length := ⟨_, rfl⟩
 rw [← hn] at HX hc1 hlen ⊢
 have Hn := Yq hn.symm; have Hm := Yq hlen.symm; clear hn hlen
 go_enter Tryz.func33, Tryz.ntmps33
 go_wp2_with fail
 go_loopw [3, 8] (fun l i wr => ∃ k : Nat, k ≤ n ∧ i = .int .i64 k ∧ l = .int .i64 (lastF fs k) ∧ Hid (rightF 0 fs = rightF (lastF fs k) (fs.drop k)) ∧ Below w.heap.size w wr) (fun _ i _ => n - (intOf i).toNat)
 case atStart => exact ⟨0, Nat.zero_le _, rfl, rfl, (by show _ = _; simp [lastF]), Below.refl _ _⟩
 case round =>
  obtain ⟨k, hk, rfl, rfl, Hinv, hbel⟩ := hrel
  have hsz := hbel.size
  by_cases hlt : k < n
  ·have hks : k < fe.length := by rw [Hn.out]; exact hlt
   have hkf : k < fs.length := by rw [Hm.out]; exact hlt
   obtain ⟨b0, o0, hb0, hidx, hcell⟩ := FlatC.at (n := n) (cap := cap) (a := a) HX.out (by decide) (i := k) hks Tryz.underlying23 sizeFld
   obtain ⟨xc, hx, rx⟩ := HF.out.at hkf hks
   have HI := Yq (fun (wx : World) (hb : Below wr.heap.size wr wx) => ih fs[k].2 xc wx (HS.out _ (List.getElem_mem _)) (rx.mono ((below_le hbel).trans (below_le hb))))
   obtain ⟨xn, xt, xr, xa1, xn1, xc1, xa2, xn2, xc2, xa3, xn3, xc3, rfl⟩ := rx.shapeK
   rw [hx] at hcell
   have c0 := (hbel.cell (p := ⟨b0, o0 + 0, none⟩) hb0).trans (hcell 0 _ rfl)
   have c1 := (hbel.cell (p := ⟨b0, o0 + 1, none⟩) hb0).trans (hcell 1 _ rfl)
   have c2 := (hbel.cell (p := ⟨b0, o0 + 2, none⟩) hb0).trans (hcell 2 _ rfl)
   have c3 := (hbel.cell (p := ⟨b0, o0 + 3, none⟩) hb0).trans (hcell 3 _ rfl)
   have c4 := (hbel.cell (p := ⟨b0, o0 + 4, none⟩) hb0).trans (hcell 4 _ rfl)
   have c5 := (hbel.cell (p := ⟨b0, o0 + 5, none⟩) hb0).trans (hcell 5 _ rfl)
   have c6 := (hbel.cell (p := ⟨b0, o0 + 6, none⟩) hb0).trans (hcell 6 _ rfl)
   have c7 := (hbel.cell (p := ⟨b0, o0 + 7, none⟩) hb0).trans (hcell 7 _ rfl)
   rw [Nat.add_zero] at c0
   have Hd := Yq (Val.rightF_drop (m := lastF fs k) hkf)
   have Hl := Yq (Val.lastF_succ hkf)
   clear hcell hx rx
   generalize fs[k].1 = m at *
   generalize fs[k].2.kind = xk at *
   generalize right fs[k].2 = rt at *
   generalize lastF fs k = la at *
   have hb1 := Yq (hbel.alloc hsz (.cells #[.int .i64 m, .int .i64 xk, .int .u64 xn, .string xt, .slice xa1 xn1 xc1, .string xr, .slice xa2 xn2 xc2, .slice xa3 xn3 xc3] 61))
   have hb2 := Yq ((Below.refl wr.heap.size wr).alloc (Nat.le_refl _) (.cells #[.int .i64 m, .int .i64 xk, .int .u64 xn, .string xt, .slice xa1 xn1 xc1, .string xr, .slice xa2 xn2 xc2, .slice xa3 xn3 xc3] 61))
   by_cases t1 : m ≤ la
   ·go_wp2_with fail
    go_ret
    exact ⟨ret_bool (by rw [Hinv.out, Hd.out, decide_eq_false (by omega)]; simp), hb1.out⟩
   ·have b1 : decide (m ≤ la) = false := by simpa using t1
    by_cases t2 : m > 536870911
    ·go_wp2_with fail
     go_ret
     exact ⟨ret_bool (by rw [Hinv.out, Hd.out, decide_eq_false (by omega)]; simp), hb1.out⟩
    ·have b2 : decide (m > 536870911) = false := by simpa using t2
     by_cases t3 : xk = 0
     ·have b3 : (xk == 0) = true := by simpa using t3
      have T3 := Yq t3; clear t3
      go_wp2_with fail
      go_ret
      exact ⟨ret_bool (by rw [Hinv.out, Hd.out, decide_eq_false (by have := T3.out; omega)]; simp), hb1.out⟩
     ·have b3 : (xk == 0) = false := by simpa using t3
      have ok : Hid (decide (la < m ∧ m ≤ 536870911 ∧ xk ≠ 0) = true) := decide_eq_true ⟨by omega, by omega, t3⟩
      clear t3
      cases rt with
      | false =>
       go_wp2_with fail
       refine (HI.out _ hb2.out).mono ?_
       rintro e w' ⟨rfl, hb⟩
       go_wp2_with fail
       go_ret
       exact ⟨ret_bool (by rw [Hinv.out, Hd.out]; simp), hb1.out.trans (hb.mono hb1.out.size)⟩
      | true =>
       go_wp2_with fail
       refine (HI.out _ hb2.out).mono ?_
       rintro e w' ⟨rfl, hb⟩
       have hc := (hb.cell (p := ⟨wr.heap.size, 0, none⟩) (by simp)).trans (World.cell?_alloc_at _ _ _ _ rfl)
       simp only [List.getElem?_toArray, List.getElem?_cons_zero] at hc
       go_wp2_with fail
       go_roundw
       case rel => exact ⟨k + 1, by omega, by simp, by rw [Hl.out], (by show _ = _; rw [Hinv.out, Hd.out, ok.out, Hl.out]; simp), hb1.out.trans (hb.mono hb1.out.size)⟩
       case measure => simp [intOf]; omega
  ·obtain rfl : k = n := by omega
   go_wp2_with fail
   go_ret
   exact ⟨ret_bool (by rw [Hinv.out, ← Hm.out, List.drop_length, rightF]), hbel⟩
theorem indexfunc_any (es : List (List Value)) (p : Nat → Bool) (v : Value) (g : Nat) (w : World) (hv : FlatC 7 (frag w) v es) (hse : ∀ e ∈ es, Val7 e)
  (hg : ∀ args wx, (callFunc g args).run Tryz.prog wx = .ok (.enter g args) wx)
  (hc : ∀ (i : Nat) (h1 : i < es.length) (wx : World), Below w.heap.size w wx → Calls Tryz.prog g #[.agg es[i].toArray] wx fun e w' => e = .returned (.bool (p i)) ∧ Below wx.heap.size wx w') :
  Calls Tryz.prog 70 #[v, .func (.func g) #[] #[]] w fun e w' => (∃ z : Int, e = .returned (.int .i64 z) ∧ ((List.range es.length).any p = decide (0 ≤ z))) ∧ Below w.heap.size w w' := by
 obtain ⟨a, cap, rfl, hc1, hc2, _⟩ := hv.len
 have HX := Yq hv; have HC := Yq hc; have HSE := Yq hse
 unfold maxLen at hc2
 clear hv hc hse
 obtain ⟨n, hn⟩ : ∃ n, n = es.length := ⟨_, rfl⟩
 rw [← hn] at HX hc1 ⊢
 have Hn := Yq hn.symm; clear hn
 have Hyes : Hid (∀ k, k < n → p k = true → (List.range n).any p = true) := fun k hk hp => List.any_eq_true.2 ⟨k, by simpa using hk, hp⟩
 have Hno : Hid ((∀ k, k < n → p k = false) → (List.range n).any p = false) := fun h => by
  rw [Bool.eq_false_iff]; intro h2
  obtain ⟨x, hx, hp⟩ := List.any_eq_true.1 h2
  rw [h x (by simpa using hx)] at hp; cases hp
 generalize (List.range n).any p = ans at *
 go_enter Tryz.func70, Tryz.ntmps70
 go_wp2_with fail
 go_loopw [8] (fun i wr => ∃ k : Nat, k ≤ n ∧ i = .int .i64 k ∧ Hid (∀ j, j < k → p j = false) ∧ Below w.heap.size w wr) (fun i _ => n - (intOf i).toNat)
 case atStart => exact ⟨0, Nat.zero_le _, rfl, fun j h => by omega, Below.refl _ _⟩
 case round =>
  obtain ⟨k, hk, rfl, Hall, hbel⟩ := hrel
  have hsz := hbel.size
  by_cases hlt : k < n
  ·have hks : k < es.length := by rw [Hn.out]; exact hlt
   obtain ⟨b0, o0, hb0, hidx, hcell⟩ := FlatC.at (n := n) (cap := cap) (a := a) HX.out (by decide) (i := k) hks Tryz.underlying24 sizeVal
   obtain ⟨xk, xn, xt, xr, xa1, xn1, xc1, xa2, xn2, xc2, xa3, xn3, xc3, hx⟩ := HSE.out es[k] (List.getElem_mem _)
   rw [hx] at hcell
   have c0 := (hbel.cell (p := ⟨b0, o0 + 0, none⟩) hb0).trans (hcell 0 _ rfl)
   have c1 := (hbel.cell (p := ⟨b0, o0 + 1, none⟩) hb0).trans (hcell 1 _ rfl)
   have c2 := (hbel.cell (p := ⟨b0, o0 + 2, none⟩) hb0).trans (hcell 2 _ rfl)
   have c3 := (hbel.cell (p := ⟨b0, o0 + 3, none⟩) hb0).trans (hcell 3 _ rfl)
   have c4 := (hbel.cell (p := ⟨b0, o0 + 4, none⟩) hb0).trans (hcell 4 _ rfl)
   have c5 := (hbel.cell (p := ⟨b0, o0 + 5, none⟩) hb0).trans (hcell 5 _ rfl)
   have c6 := (hbel.cell (p := ⟨b0, o0 + 6, none⟩) hb0).trans (hcell 6 _ rfl)
   rw [Nat.add_zero] at c0
   have hcall := HC.out k hks _ hbel
   rw [hx] at hcall
   have Hcall := Yq hcall
   clear hcell hx hcall
   cases hp : p k with
   | true =>
    have HP := Yq hp
    rw [hp] at Hcall
    clear hp
    go_wp2_with fail
    go_at_fn g
    refine Hcall.out.mono ?_
    rintro e w' ⟨rfl, hb⟩
    go_wp2_with fail
    go_ret
    exact ⟨⟨k, rfl, by rw [Hyes.out k hlt HP.out, decide_eq_true (by omega)]⟩, hbel.trans (hb.mono hsz)⟩
   | false =>
    have HP := Yq hp
    rw [hp] at Hcall
    clear hp
    go_wp2_with fail
    go_at_fn g
    refine Hcall.out.mono ?_
    rintro e w' ⟨rfl, hb⟩
    go_wp2_with fail
    go_roundw
    case rel =>
     refine ⟨k + 1, hlt, by simp, fun j hj => ?_, hbel.trans (hb.mono hsz)⟩
     by_cases e : j = k
     ·subst e; exact HP.out
     ·exact Hall.out j (by omega)
    case measure => simp [intOf]; omega
  ·obtain rfl : k = n := by omega
   go_wp2_with fail
   go_ret
   exact ⟨⟨-1, rfl, by rw [Hno.out Hall.out]; rfl⟩, hbel⟩
theorem containsfunc_any (es : List (List Value)) (p : Nat → Bool) (v : Value) (g : Nat) (w : World) (hv : FlatC 7 (frag w) v es) (hse : ∀ e ∈ es, Val7 e)
  (hg : ∀ args wx, (callFunc g args).run Tryz.prog wx = .ok (.enter g args) wx)
  (hc : ∀ (i : Nat) (h1 : i < es.length) (wx : World), Below w.heap.size w wx → Calls Tryz.prog g #[.agg es[i].toArray] wx fun e w' => e = .returned (.bool (p i)) ∧ Below wx.heap.size wx w') :
  Calls Tryz.prog 34 #[v, .func (.func g) #[] #[]] w fun e w' => e = .returned (.bool ((List.range es.length).any p)) ∧ Below w.heap.size w w' := by
 have HI := Yq (indexfunc_any es p v g w hv hse hg hc)
 obtain ⟨a, cap, rfl, hc1, hc2, _⟩ := hv.len
 clear hv hc hse hg
 generalize (List.range es.length).any p = ans at *
 go_enter Tryz.func34, Tryz.ntmps34
 go_wp2_with fail
 refine HI.out.mono ?_
 rintro e w' ⟨⟨z, rfl, hz⟩, hb⟩
 have Hz := Yq hz; clear hz
 go_wp2_with fail
 go_ret
 exact ⟨ret_bool (by rw [Hz.out]), hb⟩
end Go.Proofs.YtebekgdjknenlaaGreatDoor
