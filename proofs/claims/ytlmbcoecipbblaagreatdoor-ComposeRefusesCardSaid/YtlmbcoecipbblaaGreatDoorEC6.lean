/- compose's cursor, by the engine. -/
import Derived.Test.YtlmbcoecipbblaaGreatDoorGpO
set_option maxRecDepth 100000
set_option maxHeartbeats 4000000
set_option linter.unusedVariables false
set_option linter.unusedSimpArgs false
namespace Go.Proofs.YtlmbcoecipbblaaGreatDoor
open Go.RowKit
open Val (V E right cmp eright ado Res avalue esm esmF esmS esmK vmx esz eszF eszS eszK e0 swapE swapF PairP inv)
def stC (s : Stp) : List DV := .lit (.int .i64 s.1) :: .lit (.int .i64 s.2.1) :: (encV s.2.2.1 ++ encE s.2.2.2)
def curB (l : List (List DV)) (k : Int) : Ob := .blk [.d fun _ => .sl l, .d fun _ => .lit (.int .i64 k)]
theorem encES_len : ∀ (f : List Stp), ∀ x ∈ encES f, x.length = 30
 | [], x, h => by rw [encES] at h; cases h
 | (a, b, v, e) :: r, x, h => by
  rw [encES] at h
  rcases List.mem_cons.1 h with rfl | h
  ·simp only [List.length_cons, List.length_append, encV_len, encE_len]
  ·exact encES_len r x h
theorem step_cells {s : Stp} {r : List Stp} {l : List (List DV)} (h : l = encES (s :: r)) : ∃ sc lr, l = sc :: lr ∧ sc = stC s ∧ lr = encES r ∧ sc.length = 30 ∧ cellAt sc 0 = .lit (.int .i64 s.1) ∧ cellAt sc 1 = .lit (.int .i64 s.2.1) ∧ ((∀ x ∈ lr, x.length = 30) = True) := by
 obtain ⟨a, b, v, x⟩ := s
 rw [encES] at h
 exact ⟨_, _, h, rfl, rfl, by simp only [List.length_cons, List.length_append, encV_len, encE_len], rfl, rfl, eq_T (encES_len r)⟩
theorem over_run {G : List (Nat × List DV)} (b : Nat) (l : List (List DV)) (k : Int) (fr : List Nat) : PRun Tryz.prog G 82 [.ptr b 0] [(b, curB l k)] fr (.d fun _ => .lit (.bool (decide ((l.length : Int) = 0)))) [(b, curB l k)] := by
 refine PRun.of (nb := 1) (q := 0) (f0 := [b]) (xs := [.ptr 0 0]) (H := [(0, curB l k)]) (H1 := [(0, curB l k)]) (r1 := .d fun _ => .lit (.bool (decide ((l.length : Int) = 0)))) tI_ok (by kernel_rfl) Tryz.func82 rfl rfl (by kernel_rfl) (fun _ _ _ _ _ => by omega) (Nat.zero_le _) ?_
 repeat with_reducible refine jR trivial ?_
 with_reducible refine jE trivial ?_
 trivial
theorem kind_run {G : List (Nat × List DV)} (b : Nat) {s : List Stp} {l : List (List DV)} (hl : l = encES s) (k : Int) (fr : List Nat) : PRun Tryz.prog G 85 [.ptr b 0] [(b, curB l k)] fr (.d fun _ => .lit (.int .i64 (curK s))) [(b, curB l k)] := by
 refine PRun.of (nb := 1) (q := 0) (f0 := [b]) (xs := [.ptr 0 0]) (H := [(0, curB l k)]) (H1 := [(0, curB l k)]) (r1 := .d fun _ => .lit (.int .i64 (curK s))) tI_ok (by kernel_rfl) Tryz.func85 rfl rfl (by kernel_rfl) (fun _ _ _ _ _ => by omega) (Nat.zero_le _) ?_
 cases s with
 | nil =>
  obtain rfl : l = [] := by rw [hl, encES]
  repeat with_reducible refine jR trivial ?_
  (with_reducible apply hCall); exact over_run 0 [] k _; with_reducible refine jR lenN ?_
  repeat with_reducible refine jR trivial ?_
  with_reducible refine jE trivial ?_
  exact LeD.of rfl
 | cons s r =>
  obtain ⟨sc, lr, rfl, hsc, hlr, l30, c0, c1, h30⟩ := step_cells hl
  repeat with_reducible refine jR trivial ?_
  (with_reducible apply hCall); exact over_run 0 (sc :: lr) k _; with_reducible refine jR (lenC sc lr) ?_
  repeat with_reducible refine jR trivial ?_
  (with_reducible refine jI sc ?_ ?_); exact rfl
  repeat with_reducible refine jR l30 ?_
  with_reducible refine jE trivial ?_
  exact LeD.of c0
theorem next_run {G : List (Nat × List DV)} (b : Nat) {s : Stp} {r : List Stp} {l : List (List DV)} (hl : l = encES (s :: r)) {k : Int} (hk : 0 ≤ k) (hk2 : k ≤ 1048576) (c : List DV) (hc : c = stC (one1 s)) (l2 : List (List DV)) (hl2 : l2 = encES (nextC (s :: r) k).1) (fr : List Nat) :
  PRun Tryz.prog G 86 [.ptr b 0] [(b, curB l k)] fr (.agg (cellsP 30 c)) [(b, curB l2 (nextC (s :: r) k).2)] := by
 obtain ⟨k2, hk2e⟩ : ∃ x, x = (nextC (s :: r) k).2 := ⟨_, rfl⟩
 rw [← hk2e]
 refine PRun.of (nb := 1) (q := 0) (f0 := [b]) (xs := [.ptr 0 0]) (H := [(0, curB l k)]) (H1 := [(0, curB l2 k2)]) (r1 := .agg (cellsP 30 c)) tI_ok (by kernel_rfl) Tryz.func86 rfl rfl (by kernel_rfl) (fun _ _ _ _ _ => by omega) (Nat.zero_le _) ?_
 obtain ⟨sc, lr, rfl, hsc, hlr, l30, c0, c1, h30⟩ := step_cells hl
 have hw : IntKind.i64.wrap (k + 1) = k + 1 := wrap_in (by omega) (by omega)
 by_cases h1 : s.1 = 1
 ·rw [one1, if_pos h1] at hc
  by_cases h2 : k + 1 < s.2.1
  ·rw [nextC_c, if_pos ⟨h1, h2⟩] at hk2e hl2
   repeat with_reducible refine jR trivial ?_
   (with_reducible refine jI sc ?_ ?_); exact rfl
   repeat with_reducible refine jR (J6 l30 (cellQ c0) (cellQ c1) (eq_T h1) hw (eq_T h2)) ?_
   with_reducible refine jE trivial ?_
   subst hsc hc hl2 hk2e
   and_intros <;> first | exact LeD.of rfl | exact LeD.of (congrArg DV.sl hl)
  ·rw [nextC_c, if_neg (fun h => h2 h.2)] at hk2e hl2
   repeat with_reducible refine jR trivial ?_
   (with_reducible refine jI sc ?_ ?_); exact rfl
   repeat with_reducible refine jR (J7 l30 (cellQ c0) (cellQ c1) (eq_T h1) hw h2 (J2 h30 (lenC sc lr))) ?_
   with_reducible refine jE trivial ?_
   subst hsc hc hl2 hk2e
   and_intros <;> first | exact LeD.of rfl | exact hlr ▸ leD_tail _ _
 ·rw [one1, if_neg h1] at hc
  rw [nextC_c, if_neg (fun h => h1 h.1)] at hk2e hl2
  repeat with_reducible refine jR trivial ?_
  (with_reducible refine jI sc ?_ ?_); exact rfl
  repeat with_reducible refine jR (J7 l30 (cellQ c0) (cellQ c1) h1 hw h30 (lenC sc lr)) ?_
  with_reducible refine jE trivial ?_
  subst hsc hc hl2 hk2e
  and_intros <;> first | exact LeD.of rfl | exact hlr ▸ leD_tail _ _
theorem skip_run {G : List (Nat × List DV)} (b : Nat) {s : Stp} {r : List Stp} {l : List (List DV)} (hl : l = encES (s :: r)) {k n : Int} (hk : 0 ≤ k) (hn : 0 ≤ n) (hk2 : k + n ≤ 1048576) (l2 : List (List DV)) (hl2 : l2 = encES (skipC (s :: r) k n).1) (fr : List Nat) :
  PRun Tryz.prog G 84 [.ptr b 0, .d fun _ => .lit (.int .i64 n)] [(b, curB l k)] fr (.tup []) [(b, curB l2 (skipC (s :: r) k n).2)] := by
 obtain ⟨k2, hk2e⟩ : ∃ x, x = (skipC (s :: r) k n).2 := ⟨_, rfl⟩
 rw [← hk2e]
 refine PRun.of (nb := 1) (q := 0) (f0 := [b]) (xs := [.ptr 0 0, .d fun _ => .lit (.int .i64 n)]) (H := [(0, curB l k)]) (H1 := [(0, curB l2 k2)]) (r1 := .tup []) tI_ok (by kernel_rfl) Tryz.func84 rfl rfl (by kernel_rfl) (fun _ _ _ _ _ => by omega) (Nat.zero_le _) ?_
 obtain ⟨sc, lr, rfl, hsc, hlr, l30, c0, c1, h30⟩ := step_cells hl
 have hw : IntKind.i64.wrap (k + n) = k + n := wrap_in (by omega) (by omega)
 by_cases h1 : k + n = s.2.1
 ·rw [skipC_c, if_pos h1] at hk2e hl2
  repeat with_reducible refine jR trivial ?_
  (with_reducible refine jI sc ?_ ?_); exact rfl
  repeat with_reducible refine jR (J7 l30 (cellQ c0) (cellQ c1) hw (eq_T h1) h30 (lenC sc lr)) ?_
  with_reducible refine jE trivial ?_
  subst hl2 hk2e
  exact ⟨hlr ▸ leD_tail _ _, LeD.of rfl⟩
 ·rw [skipC_c, if_neg h1] at hk2e hl2
  repeat with_reducible refine jR trivial ?_
  (with_reducible refine jI sc ?_ ?_); exact rfl
  repeat with_reducible refine jR (J5 l30 (cellQ c0) (cellQ c1) hw h1) ?_
  with_reducible refine jE trivial ?_
  subst hl2 hk2e
  exact ⟨LeD.of (congrArg DV.sl hl), LeD.of rfl⟩
theorem run_run {G : List (Nat × List DV)} (a b : Nat) (hab : a ≠ b) {s t : List Stp} {l m : List (List DV)} (hl : l = encES s) (hm : m = encES t) {k j : Int} (hs : Cur s k) (ht : Cur t j) (fr : List Nat) :
  PRun Tryz.prog G 83 [.ptr a 0, .ptr b 0] [(b, curB m j), (a, curB l k)] fr (.d fun _ => .lit (.int .i64 (runC s k t j))) [(b, curB m j), (a, curB l k)] := by
 obtain ⟨n, hn⟩ : ∃ x, x = runC s k t j := ⟨_, rfl⟩
 rw [← hn]
 refine PRun.of (nb := 2) (q := 0) (f0 := [a, b]) (xs := [.ptr 0 0, .ptr 1 0]) (H := [(1, curB m j), (0, curB l k)]) (H1 := [(1, curB m j), (0, curB l k)]) (r1 := .d fun _ => .lit (.int .i64 n)) tI_ok (by kernel_rfl) Tryz.func83 rfl rfl (by kernel_rfl) (fun x y hx hy e => by
  have h0 : ∀ z, z < 2 → z = 0 ∨ z = 1 := fun z hz => by omega
  rcases h0 x hx with rfl | rfl <;> rcases h0 y hy with rfl | rfl <;> first | rfl | exact absurd e hab | exact absurd e.symm hab) (Nat.zero_le _) ?_
 repeat with_reducible refine jR trivial ?_
 by_cases h1 : curK s = 1
 ·cases s with
  | nil => cases h1
  | cons s r =>
  obtain ⟨sc, lr, rfl, hsc, hlr, l30, c0, c1, h30⟩ := step_cells hl
  have h1' : s.1 = 1 := h1
  (with_reducible apply hCall); exact kind_run 0 hl k _; with_reducible refine jR (eq_T h1) ?_
  repeat with_reducible refine jR trivial ?_
  by_cases h2 : curK t = 1
  ·cases t with
   | nil => cases h2
   | cons t q =>
   obtain ⟨tc, mr, rfl, htc, hmr, m30, d0, d1, i30⟩ := step_cells hm
   have h2' : t.1 = 1 := h2
   rw [runC_c, if_pos ⟨h1', h2'⟩] at hn
   have b1 := (hs.ok s (List.mem_cons_self ..)).keep h1'; have b2 := (ht.ok t (List.mem_cons_self ..)).keep h2'
   have p1 := hs.k0; have p2 := ht.k0; have p3 := hs.klt h1'; have p4 := ht.klt h2'
   have w1 : IntKind.i64.wrap (s.2.1 - k) = s.2.1 - k := wrap_in (by omega) (by omega)
   have w2 : IntKind.i64.wrap (t.2.1 - j) = t.2.1 - j := wrap_in (by omega) (by omega)
   (with_reducible apply hCall); exact kind_run 1 hm j _; with_reducible refine jR (eq_T h2) ?_
   repeat with_reducible refine jR trivial ?_
   (with_reducible refine jI sc ?_ ?_); exact rfl
   repeat with_reducible refine jR (J3 l30 (cellQ c0) (cellQ c1)) ?_
   (with_reducible refine jI tc ?_ ?_); exact rfl
   repeat with_reducible refine jR (J4 m30 (cellQ d0) (cellQ d1) (cellQ c1)) ?_
   with_reducible refine jE trivial ?_
   exact LeD.of (by rw [w1, w2, hn])
  ·have hn0 : n = 0 := by
    rw [hn]
    cases t with
    | nil => unfold runC; rfl
    | cons t q => rw [runC_c, if_neg (fun h => h2 h.2)]
   (with_reducible apply hCall); exact kind_run 1 hm j _; with_reducible refine jR h2 ?_
   repeat with_reducible refine jR trivial ?_
   with_reducible refine jE trivial ?_
   subst hn0
   exact LeD.of rfl
 ·have hn0 : n = 0 := by
   rw [hn]
   cases s with
   | nil => unfold runC; rfl
   | cons s r => cases t with
    | nil => unfold runC; rfl
    | cons t q => rw [runC_c, if_neg (fun h => h1 h.1)]
  (with_reducible apply hCall); exact kind_run 0 hl k _; with_reducible refine jR h1 ?_
  repeat with_reducible refine jR trivial ?_
  with_reducible refine jE trivial ?_
  subst hn0
  exact LeD.of rfl
end Go.Proofs.YtlmbcoecipbblaaGreatDoor
