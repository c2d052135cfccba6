/- apply's rower, by the engine. -/
import Derived.Test.YtlmbcoecipbblaaGreatDoorEAp1
import Derived.Test.YtlmbcoecipbblaaGreatDoorEInv
set_option maxRecDepth 100000
set_option maxHeartbeats 8000000
set_option linter.unusedVariables false
set_option linter.unusedSimpArgs false
namespace Go.Proofs.YtlmbcoecipbblaaGreatDoor
open Go.RowKit
open Val (V E right cmp eright ado adoF adoS adoK Res avalue esm vmx vmxL esz eszF eszS eszK get find withV putV v0 allF allS allK mkL KI KP headKind setRest partB stepB)
abbrev tVV : TypeId := 27
def rwH (b ro ko : Nat) (l o : List (List DV)) : List (Nat × Ob) := [(ro, .row ko tVV 7 fun _ => o), (b, .blk [.d fun _ => .sl l, .own ro ko])]
theorem encL_7 : ∀ (f : List V), ∀ x ∈ encL f, x.length = 7
 | [], x, h => by rw [encL] at h; cases h
 | v :: r, x, h => by
  rw [encL] at h
  rcases List.mem_cons.1 h with rfl | h
  ·exact encV_len v
  ·exact encL_7 r x h
theorem encL_ap : ∀ a b : List V, encL (a ++ b) = encL a ++ encL b
 | [], b => by rw [encL]; rfl
 | x :: r, b => by rw [List.cons_append, encL, encL, encL_ap r b]; rfl
theorem encL_drop : ∀ (a : List V) (n : Nat), encL (a.drop n) = (encL a).drop n
 | a, 0 => rfl
 | [], n + 1 => by rw [encL]; rfl
 | x :: r, n + 1 => by rw [encL]; exact encL_drop r n
theorem encL_take : ∀ (a : List V) (n : Nat), encL (a.take n) = (encL a).take n
 | a, 0 => by rw [List.take_zero, List.take_zero, encL]
 | [], n + 1 => by rw [List.take_nil, encL, List.take_nil]
 | x :: r, n + 1 => by rw [List.take_succ_cons, encL, encL, List.take_succ_cons, encL_take r n]
theorem bytes_o {a b : Nat} (h : a + b ≤ 1000000) : (a + b) * 120 ≤ 140737488355328 := by omega
def zV7 : List DV := ([.int .i64 0, .int .u64 0, .string ⟨#[]⟩, .slice none 0 0, .string ⟨#[]⟩, .slice none 0 0, .slice none 0 0] : List Value).map .lit
theorem le_k7 {a p b : Nat} (h : a + b ≤ 999999) (hp : p = 1) : (a + p) * 120 ≤ 140737488355328 := by omega
theorem le7 {sc c : List DV} {a : Nat} (h : ∀ i, i < 7 → cellAt sc (i + a) = cellAt c i) (hl : c.length = 7) : LeC [cellAt sc (0 + a), cellAt sc (1 + a), cellAt sc (2 + a), cellAt sc (3 + a), cellAt sc (4 + a), cellAt sc (5 + a), cellAt sc (6 + a)] c := by
 have e : [cellAt c 0, cellAt c 1, cellAt c 2, cellAt c 3, cellAt c 4, cellAt c 5, cellAt c 6] = c := by
  have : ((List.range 7).map fun i => cellAt c i) = c := by
   refine List.ext_getElem (by simp [hl]) (fun i h1 h2 => ?_)
   simp [cellAt, List.getD_eq_getElem?_getD, List.getElem?_eq_getElem h2]
  exact this
 rw [h 0 (by decide), h 1 (by decide), h 2 (by decide), h 3 (by decide), h 4 (by decide), h 5 (by decide), h 6 (by decide), e]
 exact LeC.rfl' c
theorem er13 (er : Errs) : ∃ b : Bool, (bopD .ifc .eql (.lit (er.of 13)) (.lit .nilIface) = some (.lit (.bool false)) ∧ BopOk .ifc .eql (.lit (er.of 13)) (.lit .nilIface) = True) ∧ (bopD .ifc .neq (.lit (er.of 13)) (.lit .nilIface) = some (.lit (.bool true)) ∧ BopOk .ifc .neq (.lit (er.of 13)) (.lit .nilIface) = True) := by
 obtain ⟨t, v, h⟩ := er_face er 13
 rw [h]
 have q1 : bopD .ifc .eql (.lit (.iface t v)) (.lit .nilIface) = some (.lit (.bool false)) := by simp [bopD, bopV]
 have q2 : bopD .ifc .neq (.lit (.iface t v)) (.lit .nilIface) = some (.lit (.bool true)) := by simp [bopD, bopV]
 exact ⟨true, ⟨q1, eq_T ⟨_, q1⟩⟩, q2, eq_T ⟨_, q2⟩⟩
theorem next_ok (er : Errs) (b ro ko : Nat) (fr : List Nat) (hn : ([b, ro, ko] ++ fr).Nodup) {l t l2 o : List (List DV)} (h7 : ∀ x ∈ l, x.length = 7) {n : Int} (h0 : 0 ≤ n) (h1 : n ≤ (l.length : Int)) {nd : DV} (hnd : nd = .lit (.int .i64 n)) (ht : t = l.take n.toNat) (hl2 : l2 = l.drop n.toNat) : PRun Tryz.prog (gE er) 119 [.ptr b 0, .d fun _ => nd] (rwH b ro ko l o) fr (.tup [.d fun _ => .sl t, .d fun _ => .lit .nilIface]) (rwH b ro ko l2 o) := by
 refine PRun.ofA (nb := 3) (q := 0) (f0 := [b, ro, ko]) (xs := [.ptr 0 0, .d fun _ => nd]) (H := rwH 0 1 2 l o) (H1 := rwH 0 1 2 l2 o) (r1 := .tup [.d fun _ => .sl t, .d fun _ => .lit .nilIface]) tI_ok (by kernel_rfl) Tryz.func119 rfl rfl (by kernel_rfl) rfl (by simp) hn ?_
 have h2 : ¬ (l.length : Int) < n := by omega
 have h3 : (0 : Int) ≤ (l.length : Int) := Int.natCast_nonneg _
 repeat with_reducible refine jR (J7 (cellQ hnd) h2 (eq_T h7) (eq_T h0) (eq_T h1) (eq_T h3) (eq_T (Int.le_refl (0 : Int)))) ?_
 subst ht hl2
 and_intros <;> first | exact LeD.of rfl | exact LeR.of rfl | exact LeD.of (by simp)
theorem next_bad (er : Errs) (b ro ko : Nat) (fr : List Nat) (hn : ([b, ro, ko] ++ fr).Nodup) {l o : List (List DV)} {n : Int} (h1 : (l.length : Int) < n) {nd : DV} (hnd : nd = .lit (.int .i64 n)) : PRun Tryz.prog (gE er) 119 [.ptr b 0, .d fun _ => nd] (rwH b ro ko l o) fr (.tup [.d fun _ => .sl [], .d fun _ => .lit (er.of 13)]) (rwH b ro ko l o) := by
 refine PRun.ofA (nb := 3) (q := 0) (f0 := [b, ro, ko]) (xs := [.ptr 0 0, .d fun _ => nd]) (H := rwH 0 1 2 l o) (H1 := rwH 0 1 2 l o) (r1 := .tup [.d fun _ => .sl [], .d fun _ => .lit (er.of 13)]) tI_ok (by kernel_rfl) Tryz.func119 rfl rfl (by kernel_rfl) rfl (by simp) hn ?_
 repeat with_reducible refine jR (J2 (cellQ hnd) (eq_T h1)) ?_
 and_intros <;> first | exact LeD.of rfl | exact LeR.of rfl | exact LeD.nil
theorem rkeep_ok (er : Errs) (b ro ko k1 : Nat) (fr : List Nat) (hn : ([b, ro, ko] ++ k1 :: fr).Nodup) {l l2 o2 o : List (List DV)} (h7 : ∀ x ∈ l, x.length = 7) (hb : o.length + l.length ≤ 1000000) {s : Stp} {sc : List DV} (hs : sc = stepC s) (h0 : 0 ≤ s.2.1) (h1 : s.2.1 ≤ (l.length : Int)) (hl2 : l2 = l.drop s.2.1.toNat) (ho2 : o2 = o ++ l.take s.2.1.toNat) : PRun Tryz.prog (gE er) 110 [.ptr b 0, .agg (cellsP 30 sc)] (rwH b ro ko l o) (k1 :: fr) (.d fun _ => .lit .nilIface) (rwH b ro k1 l2 o2) := by
 refine PRun.ofA (nb := 3) (q := 1) (f0 := [b, ro, ko]) (xs := [.ptr 0 0, .agg (cellsP 30 sc)]) (H := rwH 0 1 2 l o) (H1 := rwH 0 1 3 l2 o2) (r1 := .d fun _ => .lit .nilIface) tI_ok (by kernel_rfl) Tryz.func110 rfl rfl (by kernel_rfl) rfl (by simp) hn ?_
 obtain ⟨q0, q1, q9⟩ := stepC_at hs
 obtain ⟨t, ht⟩ : ∃ z, z = l.take s.2.1.toNat := ⟨_, rfl⟩
 have ht7 : ∀ x ∈ t, x.length = 7 := fun x hx => h7 x (List.mem_of_mem_take (ht ▸ hx))
 have htl : t.length ≤ l.length := by rw [ht, List.length_take]; omega
 repeat with_reducible refine jR trivial ?_
 (with_reducible apply hCall); exact next_ok er 0 1 2 _ (by decide) h7 h0 h1 q1 ht hl2; with_reducible refine jR (eq_T ht7) ?_
 repeat with_reducible refine jR (eq_T ht7) ?_
 with_reducible refine And.intro (bytes_o (by omega)) ?_
 repeat with_reducible refine jR trivial ?_
 rw [ho2, ← ht]
 all_goals (and_intros <;> first | exact LeD.of rfl | exact LeR.of rfl | exact trivial)
theorem rkeep_bad (er : Errs) (b ro ko k1 : Nat) (fr : List Nat) (hn : ([b, ro, ko] ++ k1 :: fr).Nodup) {l o : List (List DV)} (h7 : ∀ x ∈ l, x.length = 7) (hb : o.length + l.length ≤ 1000000) {s : Stp} {sc : List DV} (hs : sc = stepC s) (h1 : (l.length : Int) < s.2.1) : PRun Tryz.prog (gE er) 110 [.ptr b 0, .agg (cellsP 30 sc)] (rwH b ro ko l o) (k1 :: fr) (.d fun _ => .lit (er.of 13)) (rwH b ro k1 l o) := by
 refine PRun.ofA (nb := 3) (q := 1) (f0 := [b, ro, ko]) (xs := [.ptr 0 0, .agg (cellsP 30 sc)]) (H := rwH 0 1 2 l o) (H1 := rwH 0 1 3 l o) (r1 := .d fun _ => .lit (er.of 13)) tI_ok (by kernel_rfl) Tryz.func110 rfl rfl (by kernel_rfl) rfl (by simp) hn ?_
 obtain ⟨q0, q1, q9⟩ := stepC_at hs
 repeat with_reducible refine jR trivial ?_
 (with_reducible apply hCall); exact next_bad er 0 1 2 _ (by decide) h1 q1; with_reducible refine jR trivial ?_
 repeat with_reducible refine jR trivial ?_
 with_reducible refine And.intro (bytes_o (b := 0) (by omega)) ?_
 repeat with_reducible refine jR trivial ?_
 and_intros <;> first | exact LeD.of rfl | exact LeR.of (List.append_nil _)
theorem rput_ok (er : Errs) (b ro ko k1 : Nat) (fr : List Nat) (hn : ([b, ro, ko] ++ k1 :: fr).Nodup) {l o o2 : List (List DV)} (hb : o.length + l.length ≤ 999999) {s : Stp} {sc : List DV} (hs : sc = stepC s) (ho2 : o2 = o ++ [encV s.2.2.1]) : PRun Tryz.prog (gE er) 112 [.ptr b 0, .agg (cellsP 30 sc)] (rwH b ro ko l o) (k1 :: fr) (.d fun _ => .lit .nilIface) (rwH b ro k1 l o2) := by
 refine PRun.ofA (nb := 3) (q := 1) (f0 := [b, ro, ko]) (xs := [.ptr 0 0, .agg (cellsP 30 sc)]) (H := rwH 0 1 2 l o) (H1 := rwH 0 1 3 l o2) (r1 := .d fun _ => .lit .nilIface) tI_ok (by kernel_rfl) Tryz.func112 rfl rfl (by kernel_rfl) rfl (by simp) hn ?_
 obtain ⟨_, _, qv, _⟩ := sE30 s
 rw [← hs] at qv
 repeat with_reducible refine jR trivial ?_
 with_reducible refine And.intro (le_k7 (b := l.length) hb rfl) ?_
 with_reducible refine And.intro (snoc_lt (z := zV7) rfl) ?_
 with_reducible refine And.intro (iP _) ?_
 (with_reducible refine jI zV7 ?_ ?_); exact (snoc_get rfl)
 repeat with_reducible refine jR trivial ?_
 rw [ho2]
 and_intros <;> first | exact LeD.of rfl | exact snoc_set (Int.toNat_natCast _) rfl rfl (le7 qv (encV_len _))
theorem rdrop_nil (er : Errs) (b ro ko : Nat) (fr : List Nat) (hn : ([b, ro, ko] ++ fr).Nodup) {o : List (List DV)} {s : Stp} {sc : List DV} (hs : sc = stepC s) : PRun Tryz.prog (gE er) 111 [.ptr b 0, .agg (cellsP 30 sc)] (rwH b ro ko [] o) fr (.d fun _ => .lit (er.of 13)) (rwH b ro ko [] o) := by
 obtain ⟨l, hl⟩ : ∃ z : List (List DV), z = [] := ⟨_, rfl⟩
 rw [← hl]
 refine PRun.ofA (nb := 3) (q := 0) (f0 := [b, ro, ko]) (xs := [.ptr 0 0, .agg (cellsP 30 sc)]) (H := rwH 0 1 2 l o) (H1 := rwH 0 1 2 l o) (r1 := .d fun _ => .lit (er.of 13)) tI_ok (by kernel_rfl) Tryz.func111 rfl rfl (by kernel_rfl) rfl (by simp) hn ?_
 have h1 : (l.length : Int) < 1 := by rw [hl]; decide
 obtain ⟨b1, q1, q2⟩ := er13 er
 repeat with_reducible refine jR trivial ?_
 (with_reducible apply hCall); exact next_bad er 0 1 2 _ (by decide) h1 rfl; with_reducible refine jR q1 ?_
 repeat with_reducible refine jR q1 ?_
 all_goals (and_intros <;> first | exact LeD.of rfl | exact LeR.of rfl | exact trivial)
theorem rdrop_ok (er : Errs) (b ro ko : Nat) (fr : List Nat) (hn : ([b, ro, ko] ++ fr).Nodup) {lr o : List (List DV)} {x : V} {xc : List DV} (hx : xc = encV x) (h7 : ∀ x ∈ lr, x.length = 7) {s : Stp} {sc : List DV} (hs : sc = stepC s) (h : cmp x s.2.2.1 = 0) : PRun Tryz.prog (gE er) 111 [.ptr b 0, .agg (cellsP 30 sc)] (rwH b ro ko (xc :: lr) o) fr (.d fun _ => .lit .nilIface) (rwH b ro ko lr o) := by
 obtain ⟨l, hl⟩ : ∃ z : List (List DV), z = xc :: lr := ⟨_, rfl⟩
 rw [← hl]
 refine PRun.ofA (nb := 3) (q := 0) (f0 := [b, ro, ko]) (xs := [.ptr 0 0, .agg (cellsP 30 sc)]) (H := rwH 0 1 2 l o) (H1 := rwH 0 1 2 lr o) (r1 := .d fun _ => .lit .nilIface) tI_ok (by kernel_rfl) Tryz.func111 rfl rfl (by kernel_rfl) rfl (by simp) hn ?_
 obtain ⟨_, _, qv, _⟩ := sE30 s
 rw [← hs] at qv
 have l7 : xc.length = 7 := by rw [hx]; exact encV_len x
 obtain ⟨mc, hmc⟩ : ∃ z, z = encV s.2.2.1 := ⟨_, rfl⟩
 rw [← hmc] at qv
 have HS := fun fr => same_run (G := gE er) hx hmc fr
 rw [decide_eq_true h] at HS
 have HS := fun fr => (HS fr).args (args' := [.agg (cellsP 7 xc), .agg ((List.range 7).map fun i => (.d fun _ => cellAt sc (i + 2) : PV))]) (fun N h vs hp => by rw [cells_as (n := 7) (f := fun i => cellAt sc (i + 2)) (c := mc) qv] at hp; exact hp)
 have hl7 : ∀ x ∈ l, x.length = 7 := fun y hy => by rw [hl] at hy; rcases List.mem_cons.1 hy with rfl | hy; (· exact l7); exact h7 y hy
 have h1 : (1 : Int) ≤ (l.length : Int) := by rw [hl, List.length_cons]; omega
 repeat with_reducible refine jR trivial ?_
 (with_reducible apply hCall); exact next_ok er 0 1 2 _ (by decide) hl7 (n := 1) (by decide) h1 rfl (t := [xc]) (l2 := lr) (by rw [hl]; rfl) (by rw [hl]; rfl); with_reducible refine jR trivial ?_
 repeat with_reducible refine jR trivial ?_
 (with_reducible refine jI xc ?_ ?_); exact rfl
 repeat with_reducible refine jR l7 ?_
 (with_reducible apply hCall); exact HS _; with_reducible refine jR trivial ?_
 repeat with_reducible refine jR trivial ?_
 all_goals (and_intros <;> first | exact LeD.of rfl | exact LeR.of rfl | exact trivial)
theorem rdrop_bad (er : Errs) (b ro ko : Nat) (fr : List Nat) (hn : ([b, ro, ko] ++ fr).Nodup) {lr o : List (List DV)} {x : V} {xc : List DV} (hx : xc = encV x) (h7 : ∀ x ∈ lr, x.length = 7) {s : Stp} {sc : List DV} (hs : sc = stepC s) (h : ¬ cmp x s.2.2.1 = 0) : PRun Tryz.prog (gE er) 111 [.ptr b 0, .agg (cellsP 30 sc)] (rwH b ro ko (xc :: lr) o) fr (.d fun _ => .lit (er.of 13)) (rwH b ro ko lr o) := by
 obtain ⟨l, hl⟩ : ∃ z : List (List DV), z = xc :: lr := ⟨_, rfl⟩
 rw [← hl]
 refine PRun.ofA (nb := 3) (q := 0) (f0 := [b, ro, ko]) (xs := [.ptr 0 0, .agg (cellsP 30 sc)]) (H := rwH 0 1 2 l o) (H1 := rwH 0 1 2 lr o) (r1 := .d fun _ => .lit (er.of 13)) tI_ok (by kernel_rfl) Tryz.func111 rfl rfl (by kernel_rfl) rfl (by simp) hn ?_
 obtain ⟨_, _, qv, _⟩ := sE30 s
 rw [← hs] at qv
 have l7 : xc.length = 7 := by rw [hx]; exact encV_len x
 obtain ⟨mc, hmc⟩ : ∃ z, z = encV s.2.2.1 := ⟨_, rfl⟩
 rw [← hmc] at qv
 have HS := fun fr => same_run (G := gE er) hx hmc fr
 rw [decide_eq_false h] at HS
 have HS := fun fr => (HS fr).args (args' := [.agg (cellsP 7 xc), .agg ((List.range 7).map fun i => (.d fun _ => cellAt sc (i + 2) : PV))]) (fun N h vs hp => by rw [cells_as (n := 7) (f := fun i => cellAt sc (i + 2)) (c := mc) qv] at hp; exact hp)
 have hl7 : ∀ x ∈ l, x.length = 7 := fun y hy => by rw [hl] at hy; rcases List.mem_cons.1 hy with rfl | hy; (· exact l7); exact h7 y hy
 have h1 : (1 : Int) ≤ (l.length : Int) := by rw [hl, List.length_cons]; omega
 repeat with_reducible refine jR trivial ?_
 (with_reducible apply hCall); exact next_ok er 0 1 2 _ (by decide) hl7 (n := 1) (by decide) h1 rfl (t := [xc]) (l2 := lr) (by rw [hl]; rfl) (by rw [hl]; rfl); with_reducible refine jR trivial ?_
 repeat with_reducible refine jR trivial ?_
 (with_reducible refine jI xc ?_ ?_); exact rfl
 repeat with_reducible refine jR l7 ?_
 (with_reducible apply hCall); exact HS _; with_reducible refine jR trivial ?_
 repeat with_reducible refine jR trivial ?_
 all_goals (and_intros <;> first | exact LeD.of rfl | exact LeR.of rfl | exact trivial)
theorem rchange_nil (er : Errs) (b ro ko : Nat) (fr : List Nat) (hn : ([b, ro, ko] ++ fr).Nodup) {o : List (List DV)} {s : Stp} {sc : List DV} (hs : sc = stepC s) : PRun Tryz.prog (gE er) 113 [.ptr b 0, .agg (cellsP 30 sc)] (rwH b ro ko [] o) fr (.d fun _ => .lit (er.of 13)) (rwH b ro ko [] o) := by
 obtain ⟨l, hl⟩ : ∃ z : List (List DV), z = [] := ⟨_, rfl⟩
 rw [← hl]
 refine PRun.ofA (nb := 3) (q := 0) (f0 := [b, ro, ko]) (xs := [.ptr 0 0, .agg (cellsP 30 sc)]) (H := rwH 0 1 2 l o) (H1 := rwH 0 1 2 l o) (r1 := .d fun _ => .lit (er.of 13)) tI_ok (by kernel_rfl) Tryz.func113 rfl rfl (by kernel_rfl) rfl (by simp) hn ?_
 have h1 : (l.length : Int) < 1 := by rw [hl]; decide
 obtain ⟨b1, q1, q2⟩ := er13 er
 repeat with_reducible refine jR trivial ?_
 (with_reducible apply hCall); exact next_bad er 0 1 2 _ (by decide) h1 rfl; with_reducible refine jR q2 ?_
 repeat with_reducible refine jR q2 ?_
 all_goals (and_intros <;> first | exact LeD.of rfl | exact LeR.of rfl | exact trivial)
theorem rchange_bad (er : Errs) (b ro ko : Nat) (fr : List Nat) (hn : ([b, ro, ko] ++ fr).Nodup) {lr o : List (List DV)} {x : V} {xc : List DV} (hx : xc = encV x) (h7 : ∀ x ∈ lr, x.length = 7) {s : Stp} {sc : List DV} (hs : sc = stepC s) {r : Res V} {c : List DV} {ev : DV} (h1 : EVr er r c ev) (H1 : ∀ xc vc, xc = encE s.2.2.2 → vc = encV x → ∀ fr, PRun Tryz.prog (gE er) 76 [.agg (cellsP 21 xc), .agg (cellsP 7 vc)] [] fr (.tup [.agg (cellsP 7 c), .d fun _ => ev]) []) {nb : Nat} (hr : r = .bad nb ∨ ∃ y, r = .ok y ∧ nb = 12 ∧ ¬ (1 ≤ y.kind ∧ y.kind ≤ 3)) : PRun Tryz.prog (gE er) 113 [.ptr b 0, .agg (cellsP 30 sc)] (rwH b ro ko (xc :: lr) o) fr (.d fun _ => .lit (er.of nb)) (rwH b ro ko lr o) := by
 obtain ⟨l, hl⟩ : ∃ z : List (List DV), z = xc :: lr := ⟨_, rfl⟩
 rw [← hl]
 refine PRun.ofA (nb := 3) (q := 0) (f0 := [b, ro, ko]) (xs := [.ptr 0 0, .agg (cellsP 30 sc)]) (H := rwH 0 1 2 l o) (H1 := rwH 0 1 2 lr o) (r1 := .d fun _ => .lit (er.of nb)) tI_ok (by kernel_rfl) Tryz.func113 rfl rfl (by kernel_rfl) rfl (by simp) hn ?_
 obtain ⟨_, _, _, qe⟩ := sE30 s
 rw [← hs] at qe
 have l7 : xc.length = 7 := by rw [hx]; exact encV_len x
 obtain ⟨oc, hoc⟩ : ∃ z, z = encE s.2.2.2 := ⟨_, rfl⟩
 rw [← hoc] at qe
 have H1 := fun fr => H1 oc xc hoc hx fr
 have H1 := fun fr => (H1 fr).args (args' := [.agg ((List.range 21).map fun i => (.d fun _ => cellAt sc (i + 9) : PV)), .agg (cellsP 7 xc)]) (fun N h vs hp => by rw [cells_as (n := 21) (f := fun i => cellAt sc (i + 9)) (c := oc) qe] at hp; exact hp)
 obtain ⟨b1, q1, y1, n1⟩ := rv_nil h1
 have hl7 : ∀ x ∈ l, x.length = 7 := fun y hy => by rw [hl] at hy; rcases List.mem_cons.1 hy with rfl | hy; (· exact l7); exact h7 y hy
 have hlt : (1 : Int) ≤ (l.length : Int) := by rw [hl, List.length_cons]; omega
 rcases hr with hr | ⟨y, hr, rfl, hk⟩
 ·have hbt : b1 = true := by cases b1; (· obtain ⟨y, h2, _⟩ := n1 rfl; rw [hr] at h2; cases h2); rfl
  subst hbt
  obtain ⟨n, h2, hev⟩ := y1 rfl
  rw [hr] at h2
  cases h2
  repeat with_reducible refine jR trivial ?_
  (with_reducible apply hCall); exact next_ok er 0 1 2 _ (by decide) hl7 (n := 1) (by decide) hlt rfl (t := [xc]) (l2 := lr) (by rw [hl]; rfl) (by rw [hl]; rfl); with_reducible refine jR trivial ?_
  repeat with_reducible refine jR trivial ?_
  (with_reducible refine jI xc ?_ ?_); exact rfl
  repeat with_reducible refine jR l7 ?_
  (with_reducible apply hCall); exact H1 _; with_reducible refine jR q1 ?_
  repeat with_reducible refine jR q1 ?_
  and_intros <;> first | exact LeD.of rfl | exact LeD.of hev | exact LeR.of rfl
 ·have hbt : b1 = false := by cases b1; (· rfl); obtain ⟨n, h2, _⟩ := y1 rfl; rw [hr] at h2; cases h2
  subst hbt
  obtain ⟨z, h2, hc, hev⟩ := n1 rfl
  rw [hr] at h2
  cases h2
  have C0 := (cV y).1; rw [← hc] at C0
  have HP := fun fr => appart_run (G := gE er) C0 fr
  rw [decide_eq_false hk] at HP
  repeat with_reducible refine jR trivial ?_
  (with_reducible apply hCall); exact next_ok er 0 1 2 _ (by decide) hl7 (n := 1) (by decide) hlt rfl (t := [xc]) (l2 := lr) (by rw [hl]; rfl) (by rw [hl]; rfl); with_reducible refine jR trivial ?_
  repeat with_reducible refine jR trivial ?_
  (with_reducible refine jI xc ?_ ?_); exact rfl
  repeat with_reducible refine jR l7 ?_
  (with_reducible apply hCall); exact H1 _; with_reducible refine jR q1 ?_
  repeat with_reducible refine jR q1 ?_
  (with_reducible apply hCall); exact HP _; with_reducible refine jR trivial ?_
  repeat with_reducible refine jR trivial ?_
  all_goals (and_intros <;> first | exact LeD.of rfl | exact LeR.of rfl | exact trivial)
theorem rchange_ok (er : Errs) (b ro ko k1 : Nat) (fr : List Nat) (hn : ([b, ro, ko] ++ k1 :: fr).Nodup) {lr o o2 : List (List DV)} {x : V} {xc : List DV} (hb : o.length + lr.length ≤ 999999) (hx : xc = encV x) (h7 : ∀ x ∈ lr, x.length = 7) {s : Stp} {sc : List DV} (hs : sc = stepC s) {r : Res V} {c : List DV} {ev : DV} (h1 : EVr er r c ev) (H1 : ∀ xc vc, xc = encE s.2.2.2 → vc = encV x → ∀ fr, PRun Tryz.prog (gE er) 76 [.agg (cellsP 21 xc), .agg (cellsP 7 vc)] [] fr (.tup [.agg (cellsP 7 c), .d fun _ => ev]) []) {y : V} (hr : r = .ok y) (hk : 1 ≤ y.kind ∧ y.kind ≤ 3) (ho2 : o2 = o ++ [encV y]) : PRun Tryz.prog (gE er) 113 [.ptr b 0, .agg (cellsP 30 sc)] (rwH b ro ko (xc :: lr) o) (k1 :: fr) (.d fun _ => .lit .nilIface) (rwH b ro k1 lr o2) := by
 obtain ⟨l, hl⟩ : ∃ z : List (List DV), z = xc :: lr := ⟨_, rfl⟩
 rw [← hl]
 refine PRun.ofA (nb := 3) (q := 1) (f0 := [b, ro, ko]) (xs := [.ptr 0 0, .agg (cellsP 30 sc)]) (H := rwH 0 1 2 l o) (H1 := rwH 0 1 3 lr o2) (r1 := .d fun _ => .lit .nilIface) tI_ok (by kernel_rfl) Tryz.func113 rfl rfl (by kernel_rfl) rfl (by simp) hn ?_
 obtain ⟨_, _, _, qe⟩ := sE30 s
 rw [← hs] at qe
 have l7 : xc.length = 7 := by rw [hx]; exact encV_len x
 obtain ⟨oc, hoc⟩ : ∃ z, z = encE s.2.2.2 := ⟨_, rfl⟩
 rw [← hoc] at qe
 have H1 := fun fr => H1 oc xc hoc hx fr
 have H1 := fun fr => (H1 fr).args (args' := [.agg ((List.range 21).map fun i => (.d fun _ => cellAt sc (i + 9) : PV)), .agg (cellsP 7 xc)]) (fun N h vs hp => by rw [cells_as (n := 21) (f := fun i => cellAt sc (i + 9)) (c := oc) qe] at hp; exact hp)
 obtain ⟨b1, q1, y1, n1⟩ := rv_nil h1
 have hl7 : ∀ x ∈ l, x.length = 7 := fun y hy => by rw [hl] at hy; rcases List.mem_cons.1 hy with rfl | hy; (· exact l7); exact h7 y hy
 have hlt : (1 : Int) ≤ (l.length : Int) := by rw [hl, List.length_cons]; omega
 have hbt : b1 = false := by cases b1; (· rfl); obtain ⟨n, h2, _⟩ := y1 rfl; rw [hr] at h2; cases h2
 subst hbt
 obtain ⟨z, h2, hc, hev⟩ := n1 rfl
 rw [hr] at h2
 cases h2
 have C0 := (cV y).1; rw [← hc] at C0
 have HP := fun fr => appart_run (G := gE er) C0 fr
 rw [decide_eq_true hk] at HP
 repeat with_reducible refine jR trivial ?_
 (with_reducible apply hCall); exact next_ok er 0 1 2 _ (by decide) hl7 (n := 1) (by decide) hlt rfl (t := [xc]) (l2 := lr) (by rw [hl]; rfl) (by rw [hl]; rfl); with_reducible refine jR trivial ?_
 repeat with_reducible refine jR trivial ?_
 (with_reducible refine jI xc ?_ ?_); exact rfl
 repeat with_reducible refine jR l7 ?_
 (with_reducible apply hCall); exact H1 _; with_reducible refine jR q1 ?_
 repeat with_reducible refine jR q1 ?_
 (with_reducible apply hCall); exact HP _; with_reducible refine jR trivial ?_
 repeat with_reducible refine jR trivial ?_
 with_reducible refine And.intro (le_k7 (b := lr.length) hb rfl) ?_
 with_reducible refine And.intro (snoc_lt (z := zV7) rfl) ?_
 with_reducible refine And.intro (iP _) ?_
 (with_reducible refine jI zV7 ?_ ?_); exact (snoc_get rfl)
 repeat with_reducible refine jR trivial ?_
 rw [ho2, ← hc]
 and_intros <;> first | exact LeD.of rfl | exact snoc_set (Int.toNat_natCast _) rfl rfl (le7 (a := 0) (fun i _ => rfl) (by rw [hc]; exact encV_len y))
theorem aof_run {G : List (Nat × List DV)} {k : Int} {f : FuncId} (h : (k = 1 ∧ f = 110) ∨ (k = 2 ∧ f = 111) ∨ (k = 3 ∧ f = 112) ∨ (k = 4 ∧ f = 113)) {kd : DV} (hk : kd = .lit (.int .i64 k)) (fr : List Nat) : PRun Tryz.prog G 101 [.d fun _ => kd] [] fr (.fn (.func f) [] []) [] := by
 refine PRun.pure (xs := [.d fun _ => kd]) (r1 := .fn (.func f) [] []) tI_ok (by kernel_rfl) Tryz.func101 rfl rfl (by kernel_rfl) ?_
 rcases h with ⟨h, rfl⟩ | ⟨h, rfl⟩ | ⟨h, rfl⟩ | ⟨h, rfl⟩
 ·skip
  repeat with_reducible refine jR (J2 (cellQ hk) (eq_T h)) ?_
  with_reducible refine jE trivial ?_
  trivial
 ·have n1 : ¬ k = 1 := by omega
  repeat with_reducible refine jR (J3 (cellQ hk) n1 (eq_T h)) ?_
  with_reducible refine jE trivial ?_
  trivial
 ·have n1 : ¬ k = 1 := by omega
  have n2 : ¬ k = 2 := by omega
  repeat with_reducible refine jR (J4 (cellQ hk) n1 n2 (eq_T h)) ?_
  with_reducible refine jE trivial ?_
  trivial
 ·have n1 : ¬ k = 1 := by omega
  have n2 : ¬ k = 2 := by omega
  have n3 : ¬ k = 3 := by omega
  repeat with_reducible refine jR (J4 (cellQ hk) n1 n2 n3) ?_ 
  with_reducible refine jE trivial ?_
  trivial
end Go.Proofs.YtlmbcoecipbblaaGreatDoor
