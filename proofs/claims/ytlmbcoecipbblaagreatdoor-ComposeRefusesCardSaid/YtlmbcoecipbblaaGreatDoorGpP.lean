/- edit.inner, by the engine. edit.Size, by the engine. -/
import Derived.Test.YtlmbcoecipbblaaGreatDoorEC10
import Derived.Test.YtlmbcoecipbblaaGreatDoorEC9
set_option maxRecDepth 100000
set_option maxHeartbeats 8000000
set_option linter.unusedVariables false
set_option linter.unusedSimpArgs false
namespace Go.Proofs.YtlmbcoecipbblaaGreatDoor
open Go.RowKit
open Val (V E right cmp eright ado Res avalue esm esmF esmS esmK vmx vmxF vmxL vmxP esz eszF eszS eszK e0 swapE swapF PairP inv)
structure NX {α : Type} (enc : List α → List (List DV)) (pick : α → E) (fl : List (List DV)) (R : List E) where
 i : Nat
 rs : List α
 out : List E
 ol : List (List DV)
 hd : fl.drop i = enc rs
 ho : ol = out.map encE
 hr : out ++ rs.map pick = R
def innS (ec : List DV) (ls is_ ns : Nat) (fl : List (List DV)) (i : Nat) (ol : List (List DV)) : Go.Proofs.YtlmbcoecipbblaaGreatDoor.St := ⟨[(1, .ptr 0 0), (3, .own 1 2), (ls, .d fun _ => .sl fl), (ns, .d fun _ => .lit (.int .i64 fl.length)), (is_, .d fun _ => .lit (.int .i64 i))], [(0, .blk (cellsP 21 ec)), (1, .row 2 32 21 fun _ => ol)], 3, 0⟩
def innQ (ec : List DV) (ol : List (List DV)) : Go.Proofs.YtlmbcoecipbblaaGreatDoor.St := ⟨[(1, .ptr 0 0), (3, .own 1 2)], [(0, .blk (cellsP 21 ec)), (1, .row 2 32 21 fun _ => ol)], 3, 0⟩
def Val.inner (x : E) : List E := x.fields.map (·.2) ++ (x.steps.map (·.2.2.2) ++ x.keys.map (·.2))
theorem inn_bytes {out : List E} {ol : List (List DV)} {n p : Nat} (ho : ol = out.map encE) (h : out.length ≤ n) (hn : n ≤ 1000000) (hp : p = 1) : (ol.length + p) * 360 ≤ 140737488355328 := by rw [ho, List.length_map]; omega
theorem inn_len {α : Type} {out R : List E} {rs : List α} {pick : α → E} (h : out ++ rs.map pick = R) : out.length ≤ R.length := by rw [← h, List.length_append]; omega
theorem inn_end1 {out : List E} {ol ol2 A : List (List DV)} {y : E} (ho : ol = out.map encE) (h2 : ol2 = (out ++ [y]).map encE) (hA : A = [encE y]) : LeR (ol ++ A) ol2 := LeR.of (by rw [h2, ho, hA, List.map_append]; rfl)
theorem cells_off {qc c : List DV} {n o : Nat} (h : ∀ i, i < n → cellAt qc (i + o) = cellAt c i) (hl : c.length = n) : elemsV [(List.range n).map fun i => fun _ => cellAt qc (i + o)] = [c] := by
 rw [← cells_all hl]
 unfold elemsV
 simp only [List.map_cons, List.map_nil, List.map_map]
 congr 1
 exact List.map_congr_left (fun i hi => h i (List.mem_range.1 hi))
theorem inner_run {G : List (Nat × List DV)} (x : E) (hx : esz x ≤ 90000) (ec : List DV) (he : ec = encE x) (fr : List Nat) : PRun Tryz.prog G 33 [.agg (cellsP 21 ec)] [] fr (.d fun _ => .sl ((Val.inner x).map encE)) [] := by
 obtain ⟨RL, hRL⟩ : ∃ z, z = (Val.inner x).map encE := ⟨_, rfl⟩
 rw [← hRL]
 have pd := Val.esz_parts x
 have z1 := eszF_length x.fields; have z2 := eszS_length x.steps; have z3 := eszK_length x.keys
 obtain ⟨fl, hfl⟩ : ∃ l, l = encEF x.fields := ⟨_, rfl⟩
 obtain ⟨sl, hsl⟩ : ∃ l, l = encES x.steps := ⟨_, rfl⟩
 obtain ⟨kl, hkl⟩ : ∃ l, l = encEK x.keys := ⟨_, rfl⟩
 have x15 : cellAt ec 15 = .sl fl := by rw [he, hfl]; exact (cE x).2.2.2.1
 have x19 : cellAt ec 19 = .sl sl := by rw [he, hsl]; exact (cE x).2.2.2.2.2.2.2.1
 have x20 : cellAt ec 20 = .sl kl := by rw [he, hkl]; exact (cE x).2.2.2.2.2.2.2.2
 have hf' : fl.length ≤ 90000 := by rw [hfl, encEF_length]; omega
 have hs' : sl.length ≤ 90000 := by rw [hsl, encES_length]; omega
 have hk' : kl.length ≤ 90000 := by rw [hkl, encEK_length]; omega
 have hRl : (Val.inner x).length ≤ 300000 := by unfold Val.inner; simp only [List.length_append, List.length_map]; omega
 refine PRun.pure (xs := [.agg (cellsP 21 ec)]) (r1 := .d fun _ => .sl RL) tI_ok (by kernel_rfl) Tryz.func33 rfl rfl (by kernel_rfl) ?_
 repeat with_reducible refine jR (cellQ x15) ?_
 have hRn : (([] ++ x.fields.map (fun x : Int × E => x.2) : List E)).length ≤ 1000000 := by simp only [List.length_append, List.length_map, List.length_nil]; omega
 refine hLoop (loop_okC (ι := NX encEF (fun x : Int × E => x.2) fl ([] ++ x.fields.map (fun x : Int × E => x.2))) tI_ok (by kernel_rfl) (fun x => innS ec 11 13 12 fl x.i x.ol) (fun x => x.rs.length) ⟨0, x.fields, [], [], hfl, rfl, rfl⟩ ?_ (fun x => ?_))
 ·with_reducible refine jR trivial ?_
  and_intros <;> first | exact LeD.of rfl | exact LeR.of rfl | exact LeD.of x15
 obtain ⟨i, rs, out, ol, hd, ho, hr⟩ := x
 show holds _ _ _ (ev tI G _ _ (innS ec 11 13 12 fl i ol)) _
 have hi0 := Int.natCast_nonneg i
 rcases rs with _ | ⟨⟨m, y⟩, rs⟩
 rotate_left
 ·obtain ⟨qc, hqc⟩ : ∃ z, z = DV.lit (.int .i64 m) :: encE y := ⟨_, rfl⟩
  rw [encEF, ← hqc] at hd
  obtain ⟨g1, g2, g3⟩ := drop_c hd
  have hw := wrap_ix g2 (by omega)
  have q8 : qc.length = 22 := by rw [hqc, List.length_cons, encE_len]
  obtain ⟨i2, hi2⟩ : ∃ z, z = i + 1 := ⟨_, rfl⟩
  obtain ⟨ol2, hol2⟩ : ∃ z, z = (out ++ [y]).map encE := ⟨_, rfl⟩
  repeat with_reducible refine jR (J2 (eq_T (Int.ofNat_lt.2 g2)) (eq_T hi0)) ?_
  (with_reducible refine jI qc ?_ ?_); exact g1
  repeat with_reducible refine jR q8 ?_
  with_reducible refine And.intro (inn_bytes ho (inn_len hr) hRn rfl) ?_
  repeat with_reducible refine jR hw ?_
  have hr2 := (List.append_assoc out [y] (rs.map (fun x : Int × E => x.2))).trans hr
  obtain ⟨out2, ho2⟩ : ∃ z, z = out ++ [y] := ⟨_, rfl⟩
  rw [← ho2] at hol2 hr2
  with_reducible refine Exists.intro ⟨i2, rs, out2, ol2, by rw [hi2]; exact g3, hol2, hr2⟩ (And.intro (Nat.lt_succ_self _) ?_)
  with_reducible refine jR trivial ?_
  subst hi2 ho2
  and_intros <;> first | exact LeD.of rfl | exact LeD.of (by rw [hw]; rfl) | exact inn_end1 ho hol2 (cells_off (qc := qc) (o := 1) (fun i _ => by rw [hqc]; rfl) (encE_len y))
 have hge := drop_n (hd.trans (by rw [encEF]))
 rw [List.map_nil, List.append_nil] at hr
 repeat with_reducible refine jR hge ?_
 with_reducible refine Exists.intro (innQ ec ol) (And.intro ?_ ?_)
 ·with_reducible refine jR trivial ?_
  trivial
 repeat with_reducible refine jR (cellQ x19) ?_
 have houtA := hr
 have hRn : ((out ++ x.steps.map (fun x : Stp => x.2.2.2) : List E)).length ≤ 1000000 := by rw [houtA]; simp only [List.length_append, List.length_map, List.length_nil]; omega
 refine hLoop (loop_okC (ι := NX encES (fun x : Stp => x.2.2.2) sl (out ++ x.steps.map (fun x : Stp => x.2.2.2))) tI_ok (by kernel_rfl) (fun x => innS ec 24 26 25 sl x.i x.ol) (fun x => x.rs.length) ⟨0, x.steps, out, ol, hsl, ho, rfl⟩ ?_ (fun x => ?_))
 ·with_reducible refine jR trivial ?_
  and_intros <;> first | exact LeD.of rfl | exact LeR.of rfl | exact LeD.of x19
 obtain ⟨i, rs, out, ol, hd, ho, hr⟩ := x
 show holds _ _ _ (ev tI G _ _ (innS ec 24 26 25 sl i ol)) _
 have hi0 := Int.natCast_nonneg i
 rcases rs with _ | ⟨⟨m, k, v, y⟩, rs⟩
 rotate_left
 ·obtain ⟨qc, hqc⟩ : ∃ z, z = stC (m, k, v, y) := ⟨_, rfl⟩
  rw [encES, show (DV.lit (.int .i64 m) :: DV.lit (.int .i64 k) :: (encV v ++ encE y)) = stC (m, k, v, y) from rfl, ← hqc] at hd
  obtain ⟨g1, g2, g3⟩ := drop_c hd
  have hw := wrap_ix g2 (by omega)
  have q8 : qc.length = 30 := by rw [hqc, stC_len]
  obtain ⟨i2, hi2⟩ : ∃ z, z = i + 1 := ⟨_, rfl⟩
  obtain ⟨ol2, hol2⟩ : ∃ z, z = (out ++ [y]).map encE := ⟨_, rfl⟩
  repeat with_reducible refine jR (J2 (eq_T (Int.ofNat_lt.2 g2)) (eq_T hi0)) ?_
  (with_reducible refine jI qc ?_ ?_); exact g1
  repeat with_reducible refine jR q8 ?_
  with_reducible refine And.intro (inn_bytes ho (inn_len hr) hRn rfl) ?_
  repeat with_reducible refine jR hw ?_
  have hr2 := (List.append_assoc out [y] (rs.map (fun x : Stp => x.2.2.2))).trans hr
  obtain ⟨out2, ho2⟩ : ∃ z, z = out ++ [y] := ⟨_, rfl⟩
  rw [← ho2] at hol2 hr2
  with_reducible refine Exists.intro ⟨i2, rs, out2, ol2, by rw [hi2]; exact g3, hol2, hr2⟩ (And.intro (Nat.lt_succ_self _) ?_)
  with_reducible refine jR trivial ?_
  subst hi2 ho2
  and_intros <;> first | exact LeD.of rfl | exact LeD.of (by rw [hw]; rfl) | exact inn_end1 ho hol2 (cells_off (qc := qc) (o := 9) (stC_e hqc) (encE_len y))
 have hge := drop_n (hd.trans (by rw [encES]))
 rw [List.map_nil, List.append_nil] at hr
 repeat with_reducible refine jR hge ?_
 with_reducible refine Exists.intro (innQ ec ol) (And.intro ?_ ?_)
 ·with_reducible refine jR trivial ?_
  trivial
 repeat with_reducible refine jR (cellQ x20) ?_
 have houtB := hr
 have hRn : ((out ++ x.keys.map (fun x : V × E => x.2) : List E)).length ≤ 1000000 := by rw [houtB, houtA]; simp only [List.length_append, List.length_map, List.length_nil]; omega
 refine hLoop (loop_okC (ι := NX encEK (fun x : V × E => x.2) kl (out ++ x.keys.map (fun x : V × E => x.2))) tI_ok (by kernel_rfl) (fun x => innS ec 37 39 38 kl x.i x.ol) (fun x => x.rs.length) ⟨0, x.keys, out, ol, hkl, ho, rfl⟩ ?_ (fun x => ?_))
 ·with_reducible refine jR trivial ?_
  and_intros <;> first | exact LeD.of rfl | exact LeR.of rfl | exact LeD.of x20
 obtain ⟨i, rs, out, ol, hd, ho, hr⟩ := x
 show holds _ _ _ (ev tI G _ _ (innS ec 37 39 38 kl i ol)) _
 have hi0 := Int.natCast_nonneg i
 rcases rs with _ | ⟨⟨m, y⟩, rs⟩
 rotate_left
 ·obtain ⟨qc, hqc⟩ : ∃ z, z = encV m ++ encE y := ⟨_, rfl⟩
  rw [encEK, ← hqc] at hd
  obtain ⟨g1, g2, g3⟩ := drop_c hd
  have hw := wrap_ix g2 (by omega)
  have q8 : qc.length = 28 := by rw [hqc, List.length_append, encV_len, encE_len]
  obtain ⟨i2, hi2⟩ : ∃ z, z = i + 1 := ⟨_, rfl⟩
  obtain ⟨ol2, hol2⟩ : ∃ z, z = (out ++ [y]).map encE := ⟨_, rfl⟩
  repeat with_reducible refine jR (J2 (eq_T (Int.ofNat_lt.2 g2)) (eq_T hi0)) ?_
  (with_reducible refine jI qc ?_ ?_); exact g1
  repeat with_reducible refine jR q8 ?_
  with_reducible refine And.intro (inn_bytes ho (inn_len hr) hRn rfl) ?_
  repeat with_reducible refine jR hw ?_
  have hr2 := (List.append_assoc out [y] (rs.map (fun x : V × E => x.2))).trans hr
  obtain ⟨out2, ho2⟩ : ∃ z, z = out ++ [y] := ⟨_, rfl⟩
  rw [← ho2] at hol2 hr2
  with_reducible refine Exists.intro ⟨i2, rs, out2, ol2, by rw [hi2]; exact g3, hol2, hr2⟩ (And.intro (Nat.lt_succ_self _) ?_)
  with_reducible refine jR trivial ?_
  subst hi2 ho2
  and_intros <;> first | exact LeD.of rfl | exact LeD.of (by rw [hw]; rfl) | exact inn_end1 ho hol2 (cells_off (qc := qc) (o := 7) (fun i _ => by rw [hqc]; exact cell_app2 (encV_len m)) (encE_len y))
 have hge := drop_n (hd.trans (by rw [encEK]))
 rw [List.map_nil, List.append_nil] at hr
 repeat with_reducible refine jR hge ?_
 with_reducible refine Exists.intro (innQ ec ol) (And.intro ?_ ?_)
 ·with_reducible refine jR trivial ?_
  trivial
 repeat with_reducible refine jR trivial ?_ 
 with_reducible refine jE trivial ?_
 have hin : out = Val.inner x := by rw [hr, houtB, houtA]; simp [Val.inner]
 exact LeD.of (by rw [ho, hRL, hin])
theorem Val.eszS_v : ∀ {f : List Stp}, ∀ x ∈ f, vmx x.2.2.1 ≤ eszS f
 | s :: r, x, hx => by
  rw [eszS_cons]
  rcases List.mem_cons.1 hx with rfl | hx
  ·omega
  ·have := Val.eszS_v x hx; omega
theorem Val.eszK_v : ∀ {f : List (V × E)}, ∀ x ∈ f, vmx x.1 ≤ eszK f
 | (n, e) :: r, x, hx => by
  rw [eszK]
  rcases List.mem_cons.1 hx with rfl | hx
  ·show vmx n ≤ _; omega
  ·have := Val.eszK_v x hx; omega
def SzN (y : E) (z : Int) : Prop := ∀ (G : List (Nat × List DV)) (xc : List DV), xc = encE y → ∀ fr, PRun Tryz.prog G 12 [.agg (cellsP 21 xc)] [] fr (.d fun _ => .lit (.int .i64 z)) []
def szG {α : Type} (g : α → Int) : Int → List α → Int
 | a, [] => a
 | a, x :: r => szG g (W (a + g x)) r
def encI : List E → List (List DV)
 | [] => []
 | x :: r => encE x :: encI r
theorem encI_map : ∀ l : List E, l.map encE = encI l
 | [] => rfl
 | x :: r => by rw [encI, List.map_cons, encI_map r]
def szB (g : E → Int) (x : E) : Int := if x.kind = 0 then 0 else szG g (szG (fun k : V × E => szV k.1) (szG (fun s : Stp => szV s.2.2.1) (W (W (W (1 + szV x.old) + szV x.new) + (x.steps.length : Int))) x.steps) x.keys) (Val.inner x)
def szEn : Nat → E → Int
 | 0, _ => 0
 | n + 1, x => szB (szEn n) x
def szE (x : E) : Int := szEn (esz x + 1) x
theorem esize_run (g : E → Int) (x : E) (hx : esz x ≤ 90000) (HI : ∀ y ∈ Val.inner x, SzN y (g y)) : SzN x (szB g x) := by
 have pd := Val.esz_parts x
 have z1 := eszF_length x.fields; have z2 := eszS_length x.steps; have z3 := eszK_length x.keys
 by_cases k0 : x.kind = 0
 ·rw [szB, if_pos k0]
  refine fun G xc he fr => ?_
  have x0 : cellAt xc 0 = .lit (.int .i64 x.kind) := by rw [he]; exact (cE x).1
  refine PRun.pure (xs := [.agg (cellsP 21 xc)]) (r1 := .d fun _ => .lit (.int .i64 0)) tI_ok (by kernel_rfl) Tryz.func12 rfl rfl (by kernel_rfl) ?_
  repeat with_reducible refine jR (J2 (cellQ x0) (eq_T k0)) ?_
  with_reducible refine jE trivial ?_
  trivial
 obtain ⟨acc0, hacc0⟩ : ∃ z, z = W (W (W (1 + szV x.old) + szV x.new) + (x.steps.length : Int)) := ⟨_, rfl⟩
 obtain ⟨R, hR⟩ : ∃ z, z = szG g (szG (fun k : V × E => szV k.1) (szG (fun s : Stp => szV s.2.2.1) acc0 x.steps) x.keys) (Val.inner x) := ⟨_, rfl⟩
 rw [szB, if_neg k0, ← hacc0, ← hR]
 refine fun G xc he fr => ?_
 have x0 : cellAt xc 0 = .lit (.int .i64 x.kind) := by rw [he]; exact (cE x).1
 obtain ⟨sl, hsl⟩ : ∃ l, l = encES x.steps := ⟨_, rfl⟩
 obtain ⟨kl, hkl⟩ : ∃ l, l = encEK x.keys := ⟨_, rfl⟩
 obtain ⟨il, hil⟩ : ∃ l, l = encI (Val.inner x) := ⟨_, rfl⟩
 have x19 : cellAt xc 19 = .sl sl := by rw [he, hsl]; exact (cE x).2.2.2.2.2.2.2.1
 have x20 : cellAt xc 20 = .sl kl := by rw [he, hkl]; exact (cE x).2.2.2.2.2.2.2.2
 have hs' : sl.length ≤ 90000 := by rw [hsl, encES_length]; omega
 have hsn : (sl.length : Int) = (x.steps.length : Int) := by rw [hsl, encES_length]
 have hk' : kl.length ≤ 90000 := by rw [hkl, encEK_length]; omega
 have hi' : il.length ≤ 300000 := by rw [hil, ← encI_map, List.length_map]; unfold Val.inner; simp only [List.length_append, List.length_map]; omega
 have HO := vsize_all x.old (by omega) G _ (rfl : encV x.old = _)
 rw [← old_cells he] at HO
 have HN := vsize_all x.new (by omega) G _ (rfl : encV x.new = _)
 rw [← new_cells he] at HN
 have HS : ∀ s ∈ x.steps, SzV s.2.2.1 := fun s hs => vsize_all _ (by have := Val.eszS_v s hs; omega)
 have HK : ∀ k ∈ x.keys, SzV k.1 := fun k hk => vsize_all _ (by have := Val.eszK_v k hk; omega)
 have HIr := fun fr => inner_run (G := G) x hx xc he fr
 rw [encI_map, ← hil] at HIr
 refine PRun.pure (xs := [.agg (cellsP 21 xc)]) (r1 := .d fun _ => .lit (.int .i64 R)) tI_ok (by kernel_rfl) Tryz.func12 rfl rfl (by kernel_rfl) ?_
 repeat with_reducible refine jR (J2 (cellQ x0) k0) ?_
 (with_reducible apply hCall); exact HO _; with_reducible refine jR trivial ?_
 repeat with_reducible refine jR trivial ?_
 (with_reducible apply hCall); exact HN _; with_reducible refine jR (cellQ x19) ?_
 repeat with_reducible refine jR (cellQ x19) ?_
 refine hLoop (loop_okC (ι := GX encES (szG (fun s : Stp => szV s.2.2.1)) sl (fun s : Stp => SzV s.2.2.1) ((szG (fun s : Stp => szV s.2.2.1)) acc0 x.steps)) tI_ok (by kernel_rfl) (fun x => rangeS 21 xc 26 28 27 x.acc sl x.i) (fun x => x.rs.length) ⟨acc0, 0, x.steps, hsl, rfl, HS⟩ ?_ (fun x => ?_))
 ·with_reducible refine jR trivial ?_ 
  and_intros <;> first | exact LeD.of rfl | exact LeD.of x19 | exact LeD.of (by rw [hacc0]; exact congrArg (fun z : Int => DV.lit (.int .i64 (W (W (W (1 + szV x.old) + szV x.new) + z)))) hsn)
 obtain ⟨acc, i, rs, hd, hr, hok⟩ := x
 show holds _ _ _ (ev tI G _ _ (rangeS 21 xc 26 28 27 acc sl i)) _
 have hi0 := Int.natCast_nonneg i
 rcases rs with _ | ⟨⟨m, k, v, y⟩, rs⟩
 rotate_left
 ·obtain ⟨qc, hqc⟩ : ∃ z, z = stC (m, k, v, y) := ⟨_, rfl⟩
  rw [encES, show (DV.lit (.int .i64 m) :: DV.lit (.int .i64 k) :: (encV v ++ encE y)) = stC (m, k, v, y) from rfl, ← hqc] at hd
  obtain ⟨g1, g2, g3⟩ := drop_c hd
  have hw := wrap_ix g2 (by omega)
  have q8 : qc.length = 30 := by rw [hqc, stC_len]
  have HY := hok _ (List.mem_cons_self ..) G _ (rfl : encV v = _)
  rw [← cells_as (n := 7) (f := fun i => cellAt qc (i + 2)) (c := encV v) (stC_v hqc)] at HY
  repeat with_reducible refine jR (J2 (eq_T (Int.ofNat_lt.2 g2)) (eq_T hi0)) ?_
  (with_reducible refine jI qc ?_ ?_); exact g1
  repeat with_reducible refine jR q8 ?_
  (with_reducible apply hCall); exact HY _; with_reducible refine jR trivial ?_
  repeat with_reducible refine jR hw ?_
  obtain ⟨acc2, ha2⟩ : ∃ z, z = W (acc + szV v) := ⟨_, rfl⟩
  obtain ⟨i2, hi2⟩ : ∃ z, z = i + 1 := ⟨_, rfl⟩
  with_reducible refine Exists.intro ⟨acc2, i2, rs, by rw [hi2]; exact g3, by rw [← hr, szG, ha2], fun x hx => hok x (List.mem_cons_of_mem _ hx)⟩ (And.intro (Nat.lt_succ_self _) ?_)
  with_reducible refine jR trivial ?_
  subst ha2 hi2
  and_intros <;> first | exact LeD.of rfl | exact LeD.of (by rw [hw]; rfl)
 have hge := drop_n (hd.trans (by rw [encES]))
 rw [szG] at hr
 repeat with_reducible refine jR hge ?_
 with_reducible refine Exists.intro (restQ 21 xc acc) (And.intro ?_ ?_)
 ·with_reducible refine jR trivial ?_
  trivial
 rw [hr]
 obtain ⟨acc2, ha2⟩ : ∃ z, z = (szG (fun s : Stp => szV s.2.2.1)) acc0 x.steps := ⟨_, rfl⟩
 rw [← ha2]
 rw [← ha2] at hR
 repeat with_reducible refine jR (cellQ x20) ?_
 refine hLoop (loop_okC (ι := GX encEK (szG (fun k : V × E => szV k.1)) kl (fun k : V × E => SzV k.1) ((szG (fun k : V × E => szV k.1)) acc2 x.keys)) tI_ok (by kernel_rfl) (fun x => rangeS 21 xc 39 41 40 x.acc kl x.i) (fun x => x.rs.length) ⟨acc2, 0, x.keys, hkl, rfl, HK⟩ ?_ (fun x => ?_))
 ·with_reducible refine jR trivial ?_ 
  and_intros <;> first | exact LeD.of rfl | exact LeD.of x20
 obtain ⟨acc, i, rs, hd, hr, hok⟩ := x
 show holds _ _ _ (ev tI G _ _ (rangeS 21 xc 39 41 40 acc kl i)) _
 have hi0 := Int.natCast_nonneg i
 rcases rs with _ | ⟨⟨v, y⟩, rs⟩
 rotate_left
 ·obtain ⟨qc, hqc⟩ : ∃ z, z = encV v ++ encE y := ⟨_, rfl⟩
  rw [encEK, ← hqc] at hd
  obtain ⟨g1, g2, g3⟩ := drop_c hd
  have hw := wrap_ix g2 (by omega)
  have q8 : qc.length = 28 := by rw [hqc, List.length_append, encV_len, encE_len]
  have HY := hok _ (List.mem_cons_self ..) G _ (rfl : encV v = _)
  rw [← cells_as (n := 7) (f := fun i => cellAt qc i) (c := encV v) (fun i h => by rw [hqc]; exact cell_app1 (by rw [encV_len]; exact h))] at HY
  repeat with_reducible refine jR (J2 (eq_T (Int.ofNat_lt.2 g2)) (eq_T hi0)) ?_
  (with_reducible refine jI qc ?_ ?_); exact g1
  repeat with_reducible refine jR q8 ?_
  (with_reducible apply hCall); exact HY _; with_reducible refine jR trivial ?_
  repeat with_reducible refine jR hw ?_
  obtain ⟨acc2, ha2⟩ : ∃ z, z = W (acc + szV v) := ⟨_, rfl⟩
  obtain ⟨i2, hi2⟩ : ∃ z, z = i + 1 := ⟨_, rfl⟩
  with_reducible refine Exists.intro ⟨acc2, i2, rs, by rw [hi2]; exact g3, by rw [← hr, szG, ha2], fun x hx => hok x (List.mem_cons_of_mem _ hx)⟩ (And.intro (Nat.lt_succ_self _) ?_)
  with_reducible refine jR trivial ?_
  subst ha2 hi2
  and_intros <;> first | exact LeD.of rfl | exact LeD.of (by rw [hw]; rfl)
 have hge := drop_n (hd.trans (by rw [encEK]))
 rw [szG] at hr
 repeat with_reducible refine jR hge ?_
 with_reducible refine Exists.intro (restQ 21 xc acc) (And.intro ?_ ?_)
 ·with_reducible refine jR trivial ?_
  trivial
 rw [hr]
 obtain ⟨acc2, ha2⟩ : ∃ z, z = (szG (fun k : V × E => szV k.1)) acc2 x.keys := ⟨_, rfl⟩
 rw [← ha2]
 rw [← ha2] at hR
 repeat with_reducible refine jR trivial ?_ 
 (with_reducible apply hCall); exact HIr _; with_reducible refine jR trivial ?_
 repeat with_reducible refine jR trivial ?_
 refine hLoop (loop_okC (ι := GX encI (szG g) il (fun y => SzN y (g y)) ((szG g) acc2 (Val.inner x))) tI_ok (by kernel_rfl) (fun x => rangeS 21 xc 52 54 53 x.acc il x.i) (fun x => x.rs.length) ⟨acc2, 0, (Val.inner x), hil, rfl, HI⟩ ?_ (fun x => ?_))
 ·with_reducible refine jR trivial ?_ 
  and_intros <;> first | exact LeD.of rfl | exact LeD.of x20
 obtain ⟨acc, i, rs, hd, hr, hok⟩ := x
 show holds _ _ _ (ev tI G _ _ (rangeS 21 xc 52 54 53 acc il i)) _
 have hi0 := Int.natCast_nonneg i
 rcases rs with _ | ⟨y, rs⟩
 rotate_left
 ·obtain ⟨qc, hqc⟩ : ∃ z, z = encE y := ⟨_, rfl⟩
  rw [encI, ← hqc] at hd
  obtain ⟨g1, g2, g3⟩ := drop_c hd
  have hw := wrap_ix g2 (by omega)
  have q8 : qc.length = 21 := by rw [hqc, encE_len]
  have HY := hok _ (List.mem_cons_self ..) G _ hqc
  repeat with_reducible refine jR (J2 (eq_T (Int.ofNat_lt.2 g2)) (eq_T hi0)) ?_
  (with_reducible refine jI qc ?_ ?_); exact g1
  repeat with_reducible refine jR q8 ?_
  (with_reducible apply hCall); exact HY _; with_reducible refine jR trivial ?_
  repeat with_reducible refine jR hw ?_
  obtain ⟨acc2, ha2⟩ : ∃ z, z = W (acc + g y) := ⟨_, rfl⟩
  obtain ⟨i2, hi2⟩ : ∃ z, z = i + 1 := ⟨_, rfl⟩
  with_reducible refine Exists.intro ⟨acc2, i2, rs, by rw [hi2]; exact g3, by rw [← hr, szG, ha2], fun x hx => hok x (List.mem_cons_of_mem _ hx)⟩ (And.intro (Nat.lt_succ_self _) ?_)
  with_reducible refine jR trivial ?_
  subst ha2 hi2
  and_intros <;> first | exact LeD.of rfl | exact LeD.of (by rw [hw]; rfl)
 have hge := drop_n (hd.trans (by rw [encI]))
 rw [szG] at hr
 repeat with_reducible refine jR hge ?_
 with_reducible refine Exists.intro (restQ 21 xc acc) (And.intro ?_ ?_)
 ·with_reducible refine jR trivial ?_
  trivial
 rw [hr]
 obtain ⟨acc2, ha2⟩ : ∃ z, z = (szG g) acc2 (Val.inner x) := ⟨_, rfl⟩
 rw [← ha2]
 rw [← ha2] at hR
 repeat with_reducible refine jR trivial ?_ 
 with_reducible refine jE trivial ?_
 exact LeD.of (by rw [hR])
theorem esize_all : ∀ (n : Nat) (x : E), esz x < n → n ≤ 90001 → SzN x (szEn n x)
 | 0, x, h, _ => absurd h (Nat.not_lt_zero _)
 | n + 1, x, h, hn => by
  have pd := Val.esz_parts x
  refine esize_run (szEn n) x (by omega) (fun y hy => esize_all n y ?_ (by omega))
  unfold Val.inner at hy
  rcases List.mem_append.1 hy with hy | hy
  ·obtain ⟨q, hq, rfl⟩ := List.mem_map.1 hy
   have := Val.eszF_lt q hq; omega
  ·rcases List.mem_append.1 hy with hy | hy
   ·obtain ⟨q, hq, rfl⟩ := List.mem_map.1 hy
    have := Val.eszS_lt q hq; omega
   ·obtain ⟨q, hq, rfl⟩ := List.mem_map.1 hy
    have := Val.eszK_lt q hq; omega
end Go.Proofs.YtlmbcoecipbblaaGreatDoor
