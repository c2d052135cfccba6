/- The reference redlineref08, walked: is, bad, name, number. The reference redlineref08, walked: name, number, semis, want. The reference redlineref08, walked: want. The reference redlineref08, walked: dotted. The reference redlineref08, walked: head; one sign that must stand. -/
import Derived.Test.YtpcfdngnmigkfaaGreatDoorSxEnv
import Derived.Test.YtpcfdngnmigkfaaGreatDoorGroupF
import Derived.Test.YtpcfdngnmigkfaaGreatDoorGroupE
import Derived.Deep.CutRange
set_option linter.unusedVariables false
set_option linter.unusedSimpArgs false
namespace Go.Proofs.YtpcfdngnmigkfaaGreatDoor
open Go.RowKit
def stC (s : Sy.Stop) : List Value := [.int .i64 s.1, .int .i64 s.2]
def zSt : List Value := [.int .i64 0, .int .i64 0]
theorem one_stC (s : Sy.Stop) : ∀ u ∈ stC s, u.oneCell' = true := by intro u hu; simp only [stC, List.mem_cons, List.not_mem_nil, or_false] at hu; rcases hu with rfl | rfl <;> rfl
theorem zeroStp : (Tryz.prog.info? 100).map (·.zero) = some (some (.agg zSt.toArray)) := by kernel_rfl
theorem infoStp : (Tryz.prog.info? 100).map (·.size) = some 2 := by kernel_rfl
theorem zeroRTk : (Tryz.prog.info? 95).map (·.zero) = some (some (.agg zT.toArray)) := by kernel_rfl
theorem infoRTk : (Tryz.prog.info? 95).map (·.size) = some 5 := by kernel_rfl
theorem sizeRTks (w : World) : (Go.sizeOf (Tryz.prog.elem 102)).run Tryz.prog w = .ok 5 w := by kernel_rfl
theorem len_beq (t : Lx.Bs) : (((toB t).size : Int) == 0) = t.isEmpty := by
 rw [toB_size]
 cases t with
 | nil => rfl
 | cons a r => rw [List.isEmpty_cons, beq_eq_false_iff_ne]; simp only [List.length_cons]; omega
set_option maxHeartbeats 2000000 in
set_option maxRecDepth 100000 in
theorem is_any (v : Value) (ts : List Lx.Tok) (i k : Nat) (t : Lx.Bs) (w : World) (h : FlatV tC (frag w) v ts) :
  Calls Tryz.prog 59 #[v, .int .i64 i, .int .i64 k, .string (toB t)] w fun e w' => e = .returned (.bool (Sy.isAt ts i k t)) ∧ w' = w := by
 obtain ⟨ad, cap, rfl, hlc, hcm, _⟩ := h.len
 by_cases hlt : i < ts.length
 ·obtain ⟨b, o, hbl, hidx, hcell⟩ := FlatV.at h tC_len (by decide) (i := i) hlt Tryz.underlying102 sizeRTks
  have e : Sy.isAt ts i k t = (decide (ts[i].kind = k) && (t.isEmpty || decide (ts[i].text = t))) := by
   unfold Sy.isAt; rw [List.getElem?_eq_getElem hlt]
  rw [e]
  generalize ts[i] = x at *
  have d0 : w.cell? ⟨b, o, none⟩ = some (.int .i64 x.kind) := by have := hcell 0 _ rfl; rw [Nat.add_zero] at this; exact this
  have d1 : w.cell? ⟨b, o + 1, none⟩ = some (.string (toB x.text)) := hcell 1 _ rfl
  have q : decide ((i : Int) < (ts.length : Int)) = true := decide_eq_true (by omega)
  have qk : ((x.kind : Int) == (k : Int)) = decide (x.kind = k) := by
   by_cases hk : x.kind = k
   ·subst hk; simp
   ·rw [decide_eq_false hk, beq_eq_false_iff_ne]; omega
  have ql := len_beq t
  have qt := toB_beq x.text t
  clear e h hcell hlc hcm hbl
  generalize ts.length = n at *
  cases hk : decide (x.kind = k)
  ·rw [hk] at qk
   clear ql qt
   go_enter Tryz.func59, Tryz.ntmps59
   go_wp2_with fail
   go_ret
   exact ⟨rfl, rfl⟩
  ·rw [hk] at qk
   cases ht : t.isEmpty
   ·rw [ht] at ql
    go_enter Tryz.func59, Tryz.ntmps59
    go_wp2_with fail
    go_ret
    exact ⟨rfl, rfl⟩
   ·rw [ht] at ql
    clear qt
    go_enter Tryz.func59, Tryz.ntmps59
    go_wp2_with fail
    go_ret
    exact ⟨rfl, rfl⟩
 ·have e : Sy.isAt ts i k t = false := by
   unfold Sy.isAt; rw [List.getElem?_eq_none (by omega)]
  rw [e]
  have q : decide ((i : Int) < (ts.length : Int)) = false := decide_eq_false (by omega)
  clear e h hlc hcm
  generalize ts.length = n at *
  go_enter Tryz.func59, Tryz.ntmps59
  go_wp2_with fail
  go_ret
  exact ⟨rfl, rfl⟩
set_option maxHeartbeats 2000000 in
theorem bad_any (i : Nat) (w : World) : Calls Tryz.prog 58 #[.int .i64 i] w fun e w' => e = .returned (.agg (stC (Sy.bad i)).toArray) ∧ Below w.heap.size w w' := by
 have HO := Own.nil w
 go_enter Tryz.func58, Tryz.ntmps58
 go_wp2_with (first
  | (refine wpList_alloc_own rfl 100 rfl zSt zeroStp HO ?_; clear HO; intro w1 g1 HO)
  | (refine wpList_store_own 0 rfl 100 _ _ rfl g1 0 (stC (Sy.bad i)) rfl rfl HO rfl infoStp (Nat.le_refl _) (one_stC _) rfl ?_; clear HO; intro w2 HO))
 exact bodyPost_ret (results_blk rfl _ _ g1 (stC (Sy.bad i)) rfl (HO.at 0 rfl) _ Tryz.underlying100 rfl infoStp) rfl ⟨rfl, HO.below⟩
def R3 (w : World) (c : List Value) (i : Nat) (s : Sy.Stop) (e : Ending) (w' : World) : Prop :=
 e = .returned (.tuple #[.agg c.toArray, .int .i64 i, .agg (stC s).toArray]) ∧ Below w.heap.size w w'
def R2 (w : World) (i : Nat) (s : Sy.Stop) (e : Ending) (w' : World) : Prop :=
 e = .returned (.tuple #[.int .i64 i, .agg (stC s).toArray]) ∧ Below w.heap.size w w'
def RV3 (w : World) (v : Value) (i : Nat) (s : Sy.Stop) (e : Ending) (w' : World) : Prop :=
 e = .returned (.tuple #[v, .int .i64 i, .agg (stC s).toArray]) ∧ Below w.heap.size w w'
set_option maxHeartbeats 2000000 in
set_option maxRecDepth 100000 in
theorem rname_any (v : Value) (ts : List Lx.Tok) (i : Nat) (w : World) (h : FlatV tC (frag w) v ts) (hi : i ≤ 1000000) :
  Calls Tryz.prog 81 #[v, .int .i64 i] w (R3 w (tC (Sy.name ts i).1) (Sy.name ts i).2.1 (Sy.name ts i).2.2) := by
 have HO := Own.nil w
 obtain ⟨ad, cap, rfl, hlc, hcm, _⟩ := h.len
 have H := Yq h
 have HI := Yq (fun w0 (hb : Below w.heap.size w w0) => is_any (.slice ad ts.length cap) ts i 1 [] w0 (h.mono (below_le hb)))
 have HBd := Yq (fun w0 => bad_any i w0)
 cases hs : Sy.isAt ts i 1 []
 ·have e : Sy.name ts i = (Sx.zTok, i, Sy.bad i) := by unfold Sy.name; rw [hs]; rfl
  rw [e]
  rw [hs] at HI
  clear e h hlc hcm
  generalize ts.length = n at *
  go_enter Tryz.func81, Tryz.ntmps81
  go_wp2_with (first
   | (refine wpList_alloc_own rfl 95 rfl zT zeroRTk HO ?_; clear HO; intro w1 g1 HO)
   | (refine wpList_alloc_own rfl 100 rfl zSt zeroStp HO ?_; clear HO; intro w2 g2 HO)
   | (go_at_call 59; refine (HI.out _ HO.below).mono ?_; rintro e w3 ⟨rfl, rfl⟩)
   | (go_at_call 58; (with_reducible refine (HBd.out _).mono ?_); rintro e w4 ⟨rfl, hb⟩; replace HO := HO.call hb; clear hb)
   | (refine wpList_store_own 1 rfl 95 _ _ rfl g1 0 zT rfl rfl HO rfl infoRTk (Nat.le_refl _) (one_tok _ _ _ _ _) rfl ?_; clear HO; intro w5 HO)
   | (refine wpList_store_own 0 rfl 100 _ _ rfl g2 0 (stC (Sy.bad i)) rfl rfl HO rfl infoStp (Nat.le_refl _) (one_stC _) rfl ?_; clear HO; intro w6 HO))
  refine bodyPost_ret (v := .tuple #[.agg (zT).toArray, .int .i64 i, .agg (stC (Sy.bad i)).toArray]) ?_ rfl ⟨rfl, HO.below⟩
  exact results_ctc rfl rfl rfl rfl (run_load_blk (HO.at 1 rfl) _ Tryz.underlying95 rfl infoRTk) (run_load_blk (HO.at 0 rfl) _ Tryz.underlying100 rfl infoStp)
 ·have hlt := Sy.isAt_lt ts hs
  have e : Sy.name ts i = (ts[i], i + 1, Sy.none0) := by unfold Sy.name; rw [hs, List.getElem?_eq_getElem hlt]; rfl
  rw [e]
  obtain ⟨b, o, hbl, hidx, hcell⟩ := FlatV.at h tC_len (by decide) (i := i) hlt Tryz.underlying102 sizeRTks
  have hr : w.rangeAt b o (tC ts[i]) := hcell
  generalize ts[i] = x at *
  rw [hs] at HI
  clear e h hcell hlc hcm HBd
  generalize ts.length = n at *
  go_enter Tryz.func81, Tryz.ntmps81
  go_wp2_with (first
   | (refine wpList_alloc_own rfl 95 rfl zT zeroRTk HO ?_; clear HO; intro w1 g1 HO)
   | (refine wpList_alloc_own rfl 100 rfl zSt zeroStp HO ?_; clear HO; intro w2 g2 HO)
   | (go_at_call 59; refine (HI.out _ HO.below).mono ?_; rintro e w3 ⟨rfl, rfl⟩; have hr2 := range_below hr HO.below hbl)
   | (refine wpList_load_seg rfl 95 _ rfl b o rfl _ _ hr2 Tryz.underlying95 rfl infoRTk ?_)
   | (refine wpList_store_own 1 rfl 95 _ _ rfl g1 0 (tC x) rfl rfl HO rfl infoRTk (Nat.le_refl _) (one_tC _) rfl ?_; clear HO; intro w5 HO)
   | (refine wpList_store_own 0 rfl 100 _ _ rfl g2 0 zSt rfl rfl HO rfl infoStp (Nat.le_refl _) (one_stC Sy.none0) rfl ?_; clear HO; intro w6 HO))
  refine bodyPost_ret (v := .tuple #[.agg (tC x).toArray, .int .i64 (i + 1 : Nat), .agg (stC Sy.none0).toArray]) ?_ rfl ⟨rfl, HO.below⟩
  exact results_ctc rfl rfl rfl rfl (run_load_blk (HO.at 1 rfl) _ Tryz.underlying95 rfl infoRTk) (run_load_blk (HO.at 0 rfl) _ Tryz.underlying100 rfl infoStp)
set_option maxHeartbeats 2000000 in
set_option maxRecDepth 100000 in
theorem rnumb_any (v : Value) (ts : List Lx.Tok) (i : Nat) (w : World) (h : FlatV tC (frag w) v ts) (hi : i ≤ 1000000) :
  Calls Tryz.prog 88 #[v, .int .i64 i] w (RV3 w (.int .i64 (Sy.number ts i).1) (Sy.number ts i).2.1 (Sy.number ts i).2.2) := by
 have HO := Own.nil w
 obtain ⟨ad, cap, rfl, hlc, hcm, _⟩ := h.len
 have H := Yq h
 have HI := Yq (fun w0 (hb : Below w.heap.size w w0) => is_any (.slice ad ts.length cap) ts i 2 [] w0 (h.mono (below_le hb)))
 have HBd := Yq (fun w0 => bad_any i w0)
 cases hs : Sy.isAt ts i 2 []
 ·have e : Sy.number ts i = (0, i, Sy.bad i) := by unfold Sy.number; rw [hs]; rfl
  rw [e]
  rw [hs] at HI
  clear e h hlc hcm
  generalize ts.length = n at *
  go_enter Tryz.func88, Tryz.ntmps88
  go_wp2_with (first
   | (refine wpList_alloc_own rfl 100 rfl zSt zeroStp HO ?_; clear HO; intro w2 g2 HO)
   | (go_at_call 59; refine (HI.out _ HO.below).mono ?_; rintro e w3 ⟨rfl, rfl⟩)
   | (go_at_call 58; (with_reducible refine (HBd.out _).mono ?_); rintro e w4 ⟨rfl, hb⟩; replace HO := HO.call hb; clear hb)
   | (refine wpList_store_own 0 rfl 100 _ _ rfl g2 0 (stC (Sy.bad i)) rfl rfl HO rfl infoStp (Nat.le_refl _) (one_stC _) rfl ?_; clear HO; intro w6 HO))
  refine bodyPost_ret (v := .tuple #[.int .i64 0, .int .i64 i, .agg (stC (Sy.bad i)).toArray]) ?_ rfl ⟨rfl, HO.below⟩
  exact results_ttc rfl rfl rfl rfl (run_load_blk (HO.at 0 rfl) _ Tryz.underlying100 rfl infoStp)
 ·have hlt := Sy.isAt_lt ts hs
  have e : Sy.number ts i = (ts[i].num, i + 1, Sy.none0) := by unfold Sy.number; rw [hs, List.getElem?_eq_getElem hlt]; rfl
  rw [e]
  obtain ⟨b, o, hbl, hidx, hcell⟩ := FlatV.at h tC_len (by decide) (i := i) hlt Tryz.underlying102 sizeRTks
  have hr : w.rangeAt b o (tC ts[i]) := hcell
  generalize ts[i] = x at *
  rw [hs] at HI
  clear e h hcell hlc hcm HBd
  generalize ts.length = n at *
  go_enter Tryz.func88, Tryz.ntmps88
  go_wp2_with (first
   | (refine wpList_alloc_own rfl 100 rfl zSt zeroStp HO ?_; clear HO; intro w2 g2 HO)
   | (go_at_call 59; refine (HI.out _ HO.below).mono ?_; rintro e w3 ⟨rfl, rfl⟩; have d2 : w3.cell? ⟨b, o + 2, none⟩ = some (.int .i64 x.num) := range_below hr HO.below hbl 2 _ rfl)
   | (refine wpList_store_own 0 rfl 100 _ _ rfl g2 0 zSt rfl rfl HO rfl infoStp (Nat.le_refl _) (one_stC Sy.none0) rfl ?_; clear HO; intro w6 HO))
  refine bodyPost_ret (v := .tuple #[.int .i64 x.num, .int .i64 (i + 1 : Nat), .agg (stC Sy.none0).toArray]) ?_ rfl ⟨rfl, HO.below⟩
  exact results_ttc rfl rfl rfl rfl (run_load_blk (HO.at 0 rfl) _ Tryz.underlying100 rfl infoStp)
set_option maxHeartbeats 2000000 in
set_option maxRecDepth 100000 in
theorem rsemis_any (v : Value) (ts : List Lx.Tok) (hf : ts.length ≤ 10000) (i : Nat) (w : World) (h : FlatV tC (frag w) v ts) (hi : i ≤ 1000000) :
  Calls Tryz.prog 82 #[v, .int .i64 i] w fun e w' => e = .returned (.int .i64 (Sy.onAt ts i)) ∧ w' = w := by
 have HI := Yq (fun j => is_any v ts j 4 [59] w h)
 obtain ⟨S, hS⟩ : ∃ S, S = Sy.onAt ts i := ⟨_, rfl⟩
 rw [← hS]
 have HS : Hid (S = Sy.semisL ts (ts.length + 1) i) := Yq hS
 clear h hS
 go_enter Tryz.func82, Tryz.ntmps82
 go_wp2
 go_loopg [1] (ts.length + 1) (fun n at' wr => ∃ j : Nat, at' = .int .i64 j ∧ wr = w ∧ Hid (S = Sy.semisL ts n j) ∧ ts.length + 1 ≤ j + n ∧ j ≤ 1000000)
 case atStart => exact ⟨i, rfl, rfl, HS, by omega, hi⟩
 case round =>
  obtain ⟨j, rfl, rfl, HSn, hF, hj⟩ := hrel
  have HT := Yq (HI.out j)
  cases hs : Sy.isAt ts j 4 [59]
  ·rw [hs] at HT
   have hend : S = j := by
    rw [HSn.out]
    cases gk with
    | zero => rfl
    | succ n => rw [Sy.semisL, hs]; rfl
   subst hend
   go_wp2_with (go_at_call 59; refine HT.out.mono ?_; rintro e w3 ⟨rfl, rfl⟩)
   go_ret
   exact ⟨rfl, rfl⟩
  ·rw [hs] at HT
   have hlt := Sy.isAt_lt ts hs
   obtain ⟨n, rfl⟩ : ∃ n, gk = n + 1 := ⟨gk - 1, by omega⟩
   have Hnx : Hid (S = Sy.semisL ts n (j + 1)) := Yq (by rw [HSn.out, Sy.semisL, hs]; rfl)
   clear hs HSn HS
   go_wp2_with (go_at_call 59; refine HT.out.mono ?_; rintro e w3 ⟨rfl, rfl⟩)
   go_roundg n
   case measure => omega
   case rel => exact ⟨j + 1, by go_num, rfl, Hnx, by omega, by omega⟩
theorem sizeStr8 (w : World) : (Go.sizeOf (Tryz.prog.elem 42)).run Tryz.prog w = .ok 1 w := by kernel_rfl
theorem stp_build0 (w : World) : (Instr.build 100 #[]).run Tryz.prog w = .ok (.agg zSt.toArray) w := by kernel_rfl
set_option maxHeartbeats 4000000 in
set_option maxRecDepth 100000 in
theorem want_any (v : Value) (ts : List Lx.Tok) (i : Nat) (vt : Value) (xs : List Lx.Bs) (w : World) (h : FlatV tC (frag w) v ts) (hx : FlatV sC (frag w) vt xs) (hne : ∀ t ∈ xs, t ≠ []) (hi : i ≤ 1000000) (hn : xs.length ≤ 10) :
  Calls Tryz.prog 57 #[v, .int .i64 i, vt] w (R2 w (Sy.want ts i xs).1 (Sy.want ts i xs).2) := by
 obtain ⟨ad, cap, rfl, _, _, _⟩ := hx.len
 obtain ⟨ad0, cap0, rfl, _, _, _⟩ := h.len
 obtain ⟨R, hR⟩ : ∃ R, R = Sy.want ts i xs := ⟨_, rfl⟩
 rw [← hR]
 have HR : Hid (R = Sy.want ts (i + 0) (xs.drop 0)) := Yq hR
 have H := Yq h; have HX := Yq hx; have HNe := Yq hne
 have HI := Yq (fun j k t w0 (hb : Below w.heap.size w w0) => is_any (.slice ad0 ts.length cap0) ts j k t w0 (h.mono (below_le hb)))
 have HBd := Yq (fun j w0 => bad_any j w0)
 have HO := Own.nil w
 have hbd := stp_build0
 obtain ⟨n, hn2⟩ : ∃ n, n = xs.length := ⟨_, rfl⟩
 rw [← hn2] at HX hn ⊢
 have Hn := Yq hn2.symm
 generalize ts.length = m at *
 clear hR h hx hne hn2
 go_enter Tryz.func57, Tryz.ntmps57
 go_upto_region 1 with (first
  | (refine wpList_alloc_own rfl 100 rfl zSt zeroStp HO ?_; clear HO; intro w1 g1 HO))
 have HO1 := Yq HO
 clear HO
 go_wp2_with fail
 go_loopw [1, 13] (fun av iv wr => ∃ k j : Nat, k ≤ n ∧ j ≤ 1000000 + k ∧ iv = .int .i64 k ∧ av = .int .i64 j ∧ Hid (Own w [(g1, zSt)] wr) ∧ Hid (R = Sy.want ts j (xs.drop k)) ∧ Hid (j = i + k)) (fun _ iv _ => n - (intOf iv).toNat)
 case atStart => exact ⟨0, i, Nat.zero_le _, hi, rfl, rfl, HO1, HR, Yq rfl⟩
 case round =>
  obtain ⟨k, j, hkn, hj, rfl, rfl, HO, HR, HJ⟩ := hrel
  by_cases hk : k < n
  ·have hk1 : k < xs.length := by rw [Hn.out]; exact hk
   obtain ⟨d0, o0, hd0, hidx, hcell⟩ := FlatV.at (n := n) (cap := cap) (a := ad) (HX.out.mono (below_le HO.out.below)) sC_len (by decide) (i := k) hk1 Tryz.underlying42 sizeStr8
   have c0 : wr.cell? ⟨d0, o0, none⟩ = some (.string (toB xs[k])) := by have h1 := hcell 0 _ rfl; rw [Nat.add_zero] at h1; exact h1
   have htn := HNe.out xs[k] (List.getElem_mem hk1)
   have HR2 : Hid (R = if Sy.isAt ts j (Sy.kindOf xs[k]) xs[k] then Sy.want ts (j + 1) (xs.drop (k + 1)) else (j, Sy.bad j)) := Yq (by
    rw [HR.out, List.drop_eq_getElem_cons hk1, Sy.want])
   clear hcell HR
   generalize xs[k] = t at *
   clear hk1
   obtain ⟨b, r, rfl⟩ : ∃ b r, t = b :: r := by
    cases t with
    | nil => exact absurd rfl htn
    | cons b r => exact ⟨b, r, rfl⟩
   have hz : 0 < (toB (b :: r)).size := by rw [toB_size]; simp
   have hb0 : (toB (b :: r))[0] = b := rfl
   have HT := Yq (fun kk => HI.out j kk (b :: r) wr HO.out.below)
   have HBk := Yq (HBd.out j wr)
   clear htn
   by_cases h1 : 97 ≤ b.toNat
   ·have q1 : (97 : Int) ≤ (((toB (b :: r))[0].toNat : Nat) : Int) := by rw [hb0]; omega
    have q1' : decide ((97 : Int) ≤ (((toB (b :: r))[0].toNat : Nat) : Int)) = true := decide_eq_true q1
    by_cases h2 : b.toNat ≤ 122
    ·have q2 : (((toB (b :: r))[0].toNat : Nat) : Int) ≤ 122 := by rw [hb0]; omega
     have q2' : decide ((((toB (b :: r))[0].toNat : Nat) : Int) ≤ 122) = true := decide_eq_true q2
     have hkd : Sy.kindOf (b :: r) = 1 := by unfold Sy.kindOf; dsimp only; rw [if_pos ⟨UInt8.le_iff_toNat_le.2 h1, UInt8.le_iff_toNat_le.2 h2⟩]
     rw [hkd] at HR2
     have HT1 := Yq (HT.out 1)
     clear hkd h1 h2 hb0 HT
     cases hs : Sy.isAt ts j 1 (b :: r)
     ·rw [hs] at HT1 HR2
      have HRe : Hid (R = (j, Sy.bad j)) := HR2
      have HO2 := HO.out
      clear HR2 hs
      go_wp2_with (first
       | (go_at_call 59; (refine HT1.out.mono ?_); rintro e w3 ⟨rfl, rfl⟩)
       | (go_at_call 58; (with_reducible refine HBk.out.mono ?_); rintro e w4 ⟨rfl, hb⟩; replace HO2 := HO2.call hb; clear hb)
       | (refine wpList_store_own 0 rfl 100 _ _ rfl g1 0 (stC (Sy.bad j)) rfl rfl HO2 rfl infoStp (Nat.le_refl _) (one_stC _) rfl ?_; clear HO2; intro w6 HO3))
      rw [HRe.out]
      refine bodyPost_ret (v := .tuple #[.int .i64 j, .agg (stC (Sy.bad j)).toArray]) ?_ rfl ⟨rfl, HO3.below⟩
      exact results_tc rfl rfl rfl (run_load_blk (HO3.at 0 rfl) _ Tryz.underlying100 rfl infoStp)
     ·rw [hs] at HT1 HR2
      have HRe : Hid (R = Sy.want ts (j + 1) (xs.drop (k + 1))) := HR2
      clear HR2 hs
      go_wp2_with (go_at_call 59; (refine HT1.out.mono ?_); rintro e w3 ⟨rfl, rfl⟩)
      go_roundw
      case rel => exact ⟨k + 1, j + 1, by omega, by omega, by go_num, by go_num, HO, HRe, Yq (by have := HJ.out; omega)⟩
      case measure => simp [intOf]; omega
    ·have q2 : ¬ (((toB (b :: r))[0].toNat : Nat) : Int) ≤ 122 := by rw [hb0]; omega
     have q2' : decide ((((toB (b :: r))[0].toNat : Nat) : Int) ≤ 122) = false := decide_eq_false q2
     have hkd : Sy.kindOf (b :: r) = 4 := by unfold Sy.kindOf; dsimp only; rw [if_neg (fun (e : 97 ≤ b ∧ b ≤ 122) => h2 (by have := UInt8.le_iff_toNat_le.1 e.2; exact this))]
     rw [hkd] at HR2
     have HT1 := Yq (HT.out 4)
     clear hkd h1 h2 hb0 HT
     cases hs : Sy.isAt ts j 4 (b :: r)
     ·rw [hs] at HT1 HR2
      have HRe : Hid (R = (j, Sy.bad j)) := HR2
      have HO2 := HO.out
      clear HR2 hs
      go_wp2_with (first
       | (go_at_call 59; (refine HT1.out.mono ?_); rintro e w3 ⟨rfl, rfl⟩)
       | (go_at_call 58; (with_reducible refine HBk.out.mono ?_); rintro e w4 ⟨rfl, hb⟩; replace HO2 := HO2.call hb; clear hb)
       | (refine wpList_store_own 0 rfl 100 _ _ rfl g1 0 (stC (Sy.bad j)) rfl rfl HO2 rfl infoStp (Nat.le_refl _) (one_stC _) rfl ?_; clear HO2; intro w6 HO3))
      rw [HRe.out]
      refine bodyPost_ret (v := .tuple #[.int .i64 j, .agg (stC (Sy.bad j)).toArray]) ?_ rfl ⟨rfl, HO3.below⟩
      exact results_tc rfl rfl rfl (run_load_blk (HO3.at 0 rfl) _ Tryz.underlying100 rfl infoStp)
     ·rw [hs] at HT1 HR2
      have HRe : Hid (R = Sy.want ts (j + 1) (xs.drop (k + 1))) := HR2
      clear HR2 hs
      go_wp2_with (go_at_call 59; (refine HT1.out.mono ?_); rintro e w3 ⟨rfl, rfl⟩)
      go_roundw
      case rel => exact ⟨k + 1, j + 1, by omega, by omega, by go_num, by go_num, HO, HRe, Yq (by have := HJ.out; omega)⟩
      case measure => simp [intOf]; omega
   ·have q1 : ¬ (97 : Int) ≤ (((toB (b :: r))[0].toNat : Nat) : Int) := by rw [hb0]; omega
    have q1' : decide ((97 : Int) ≤ (((toB (b :: r))[0].toNat : Nat) : Int)) = false := decide_eq_false q1
    have hkd : Sy.kindOf (b :: r) = 4 := by unfold Sy.kindOf; dsimp only; rw [if_neg (fun (e : 97 ≤ b ∧ b ≤ 122) => h1 (by have := UInt8.le_iff_toNat_le.1 e.1; exact this))]
    rw [hkd] at HR2
    have HT1 := Yq (HT.out 4)
    clear hkd h1 hb0 HT
    cases hs : Sy.isAt ts j 4 (b :: r)
    ·rw [hs] at HT1 HR2
     have HRe : Hid (R = (j, Sy.bad j)) := HR2
     have HO2 := HO.out
     clear HR2 hs
     go_wp2_with (first
      | (go_at_call 59; (refine HT1.out.mono ?_); rintro e w3 ⟨rfl, rfl⟩)
      | (go_at_call 58; (with_reducible refine HBk.out.mono ?_); rintro e w4 ⟨rfl, hb⟩; replace HO2 := HO2.call hb; clear hb)
      | (refine wpList_store_own 0 rfl 100 _ _ rfl g1 0 (stC (Sy.bad j)) rfl rfl HO2 rfl infoStp (Nat.le_refl _) (one_stC _) rfl ?_; clear HO2; intro w6 HO3))
     rw [HRe.out]
     refine bodyPost_ret (v := .tuple #[.int .i64 j, .agg (stC (Sy.bad j)).toArray]) ?_ rfl ⟨rfl, HO3.below⟩
     exact results_tc rfl rfl rfl (run_load_blk (HO3.at 0 rfl) _ Tryz.underlying100 rfl infoStp)
    ·rw [hs] at HT1 HR2
     have HRe : Hid (R = Sy.want ts (j + 1) (xs.drop (k + 1))) := HR2
     clear HR2 hs
     go_wp2_with (go_at_call 59; (refine HT1.out.mono ?_); rintro e w3 ⟨rfl, rfl⟩)
     go_roundw
     case rel => exact ⟨k + 1, j + 1, by omega, by omega, by go_num, by go_num, HO, HRe, Yq (by have := HJ.out; omega)⟩
     case measure => simp [intOf]; omega
  ·obtain rfl : n = k := by omega
   have HRe : Hid (R = (j, Sy.none0)) := Yq (by
    rw [HR.out, List.drop_of_length_le (by rw [Hn.out]; exact Nat.le_refl _), Sy.want])
   have HO2 := HO.out
   clear HR HO hkn hk
   go_wp2_with (first
    | (refine wpList_store_own 0 rfl 100 _ _ rfl g1 0 zSt rfl rfl HO2 rfl infoStp (Nat.le_refl _) (one_stC Sy.none0) rfl ?_; clear HO2; intro w6 HO3))
   rw [HRe.out]
   refine bodyPost_ret (v := .tuple #[.int .i64 j, .agg (stC Sy.none0).toArray]) ?_ rfl ⟨rfl, HO3.below⟩
   exact results_tc rfl rfl rfl (run_load_blk (HO3.at 0 rfl) _ Tryz.underlying100 rfl infoStp)
theorem fRyDottedA5_49 {P : Program} {M : Region.Mode} {O : Array Oper} {Q : Exit → Act → World → Prop} {Y Z : World → Prop} {f F : Nat} {a b c e g : Bool} {i j k l m n o p q r s t u v x y z a0 a1 a2 a3 a4 a5 a6 a7 a8 a9 aA aB aC aD aE aF aG aH aI aJ aK aL aM aN aO aP aQ aR aS aT aU aV : Value} {d} {w : World} (h : wpAnyG P M O Q Y Z f F #[a,b,c,e,g] ⟨#[i,j,k,l,m,n,o,p,q,r,s,t,u,v,x,y,z,a0,a1,a2,a3,a4,a5,a6,a7,a8,a9,aA,aB,aC,aD,aE,aF,aG,aH,aI,aJ,aK,aL,aM,aN,aO,aP,aQ,aR,aS,aT,aU,aV],d⟩ w) : wpAnyG P M O Q Y Z f F #[a,b,c,e,g] ⟨#[i,j,k,l,m,n,o,p,q,r,s,t,u,v,x,y,z,a0,a1,a2,a3,a4,a5,a6,a7,a8,a9,aA,aB,aC,aD,aE,aF,aG,aH,aI,aJ,aK,aL,aM,aN,aO,aP,aQ,aR,aS,aT,aU,aV],d⟩ w := h
theorem rname_yes {ts : List Lx.Tok} {i : Nat} (h : Sy.isAt ts i 1 [] = true) : Sy.name ts i = (ts[i]'(Sy.isAt_lt ts h), i + 1, Sy.none0) := by
 unfold Sy.name; rw [h, List.getElem?_eq_getElem (Sy.isAt_lt ts h)]; rfl
theorem rname_no {ts : List Lx.Tok} {i : Nat} (h : Sy.isAt ts i 1 [] = false) : Sy.name ts i = (Sx.zTok, i, Sy.bad i) := by unfold Sy.name; rw [h]; rfl
set_option maxHeartbeats 8000000 in
set_option maxRecDepth 100000 in
theorem rdotted_any (v : Value) (ts : List Lx.Tok) (hS : Small ts) (i : Nat) (ty : Bool) (w : World) (h : FlatV tC (frag w) v ts) (hi : i ≤ 900000) :
  Calls Tryz.prog 60 #[v, .int .i64 i, .bool ty] w (RV3 w (.string (toB (Sy.dotted ts i ty).1)) (Sy.dotted ts i ty).2.1 (Sy.dotted ts i ty).2.2) := by
 obtain ⟨ad, cap, rfl, _, _, _⟩ := h.len
 obtain ⟨R, hR⟩ : ∃ R, R = Sy.dotted ts i ty := ⟨_, rfl⟩
 rw [← hR]
 have HI := Yq (fun j k t w0 (hb : Below w.heap.size w w0) => is_any (.slice ad ts.length cap) ts j k t w0 (h.mono (below_le hb)))
 have HNm := Yq (fun j w0 (hb : Below w.heap.size w w0) (hj : j ≤ 1000000) => rname_any (.slice ad ts.length cap) ts j w0 (h.mono (below_le hb)) hj)
 have HSm := Yq hS
 have HO := Own.nil w
 have hbd := stp_build0
 unfold R3 at HNm
 have Hfew := Yq hS.few
 have HL : Hid (R = if (ty && Sy.isAt ts i 4 [46]) = true then Sy.dottedL ts (ts.length + 1) [46] (i + 1) else Sy.dottedL ts (ts.length + 1) [] i) := Yq (by
  rw [hR]; unfold Sy.dotted
  cases ty <;> cases Sy.isAt ts i 4 [46] <;> rfl)
 obtain ⟨m, hm0⟩ : ∃ m, m = ts.length := ⟨_, rfl⟩
 rw [← hm0] at HI HNm HL Hfew ⊢
 have HM := Yq hm0.symm
 clear hm0
 clear hR h hS
 go_enter Tryz.func60, Tryz.ntmps60
 go_upto_region 1 with (first
  | (refine wpList_alloc_own rfl 100 rfl zSt zeroStp HO ?_; clear HO; intro w1 g1 HO))
 go_upto_region 2 with fail
 go_cut [18] from 10 to 18 (fun s18 wx => s18 = .bool (ty && Sy.isAt ts i 4 [46]) ∧ wx = w1)
 case first =>
  have HI0 := Yq (HI.out i 4 [46] w1 HO.below)
  cases ty
  ·go_wp2_with fail
   go_meet
   exact ⟨rfl, rfl⟩
  ·go_wp2_with (go_at_call 59; (refine HI0.out.mono ?_); rintro e w3 ⟨rfl, rfl⟩)
   go_meet
   exact ⟨by rw [Bool.true_and], rfl⟩
 case rest =>
  obtain ⟨h18, rfl⟩ := hcut
  subst h18
  go_upto_if 18 with fail
  go_cut [1, 9] from 10 to 20 (fun s1 s9 wx => wx = wc ∧ ∃ (p : Lx.Bs) (j : Nat), s1 = .int .i64 j ∧ s9 = .string (toB p) ∧ Hid (R = Sy.dottedL ts (m + 1) p j) ∧ j ≤ i + 1 ∧ p.length ≤ 1)
  case first =>
   cases hB : (ty && Sy.isAt ts i 4 [46])
   ·go_wp2_with fail
    go_meet
    exact ⟨rfl, [], i, rfl, rfl, Yq (by rw [HL.out, hB, if_neg (by decide)]), by omega, by simp⟩
   ·go_wp2_with fail
    go_meet
    exact ⟨rfl, [46], i + 1, rfl, rfl, Yq (by rw [HL.out, hB, if_pos rfl]), by omega, by simp⟩
  case rest =>
   obtain ⟨rfl, p0, j0, rfl, rfl, HRL, hj0, hp0⟩ := hcut
   have HO1 := Yq HO
   clear HO HL
   go_wp2_with fail
   go_loopg [1, 9] (m + 1) (fun fu av sv wr => ∃ (a : Lx.Bs) (j : Nat), av = .int .i64 j ∧ sv = .string (toB a) ∧ Hid (Own w [(g1, zSt)] wr) ∧ Hid (R = Sy.dottedL ts fu a j) ∧ 1 ≤ fu ∧ fu ≤ m + 1 ∧ m < fu + j ∧ j ≤ 910000 ∧ a.length ≤ (m + 2 - fu) * 5001 + 1)
   case atStart => exact ⟨p0, j0, rfl, rfl, HO1, HRL, by omega, by omega, by omega, by omega, by omega⟩
   case round =>
    obtain ⟨a, j, rfl, rfl, HO, HR, hf1, hf3, hf2, hj, hal⟩ := hrel
    obtain ⟨fu, rfl⟩ : ∃ n, gk = n + 1 := ⟨gk - 1, by omega⟩
    have HN1 := Yq (HNm.out j wr HO.out.below (by omega))
    have hsza : (toB a).size ≤ 40000000 := by rw [toB_size]; have := Hfew.out; have h9 : (m + 2 - (fu + 1)) * 5001 ≤ 5002 * 5001 := Nat.mul_le_mul_right _ (by omega); omega
    cases hs : Sy.isAt ts j 1 []
    ·rw [rname_no hs] at HN1
     have HRe : Hid (R = ([], j, Sy.bad j)) := Yq (by rw [HR.out, Sy.dottedL, rname_no hs, if_pos (by simp [Sy.bad])])
     dsimp only at HN1
     have HO2 := HO.out
     clear HR hs
     go_upto_region 6 with (first
      | (go_at_call 81; (refine HN1.out.mono ?_); rintro e w3 ⟨rfl, hb⟩; replace HO2 := HO2.call hb; clear hb)
      | (refine wpList_alloc_own rfl 95 rfl zT zeroRTk HO2 ?_; clear HO2; intro w4 gA HO2)
      | (refine wpList_alloc_own rfl 100 rfl zSt zeroStp HO2 ?_; clear HO2; intro w5 gB HO2)
      | (refine wpList_store_own 1 rfl 95 _ _ rfl gA 0 (tC Sx.zTok) rfl rfl HO2 rfl infoRTk (Nat.le_refl _) (one_tC _) rfl ?_; clear HO2; intro w6 HO2)
      | (refine wpList_store_own 0 rfl 100 _ _ rfl gB 0 (stC (Sy.bad j)) rfl rfl HO2 rfl infoStp (Nat.le_refl _) (one_stC _) rfl ?_; clear HO2; intro w7 HO2))
     have e1 : w7.cell? ⟨gB, 1, none⟩ = some (.int .i64 9) := (HO2.at 0 rfl).cell (o := 1) rfl
     have HO3 := Yq HO2
     have HOd := Yq HO2.drew
     clear HO2
     go_upto_region 7 with fail
     have hP : Blk w7.drew gB (stC (Sy.bad j)) := HOd.out.at 0 rfl
     refine wp_region_G 4 (fun _ => True) (fun w' => Blk w' gB (stC (Sy.bad j))) (by kernel_rfl) trivial hP (fun _ => ?_)
     refine fRyDottedA5_49 ?_
     refine wpAnyG_take (i := 0) (v := .int .i64 j) rfl (by kernel_rfl) (fun _ _ _ h => h) (.inl ⟨by rfl, fun w hw => by go_simp⟩) (InvG.mk trivial hP) ?_
     refine fRyDottedA5_49 ?_
     refine wpAnyG_take (i := 1) (v := .agg (stC (Sy.bad j)).toArray) rfl (by kernel_rfl) (fun _ _ _ h => h) (yieldsIf_load_mid (by rfl) 100 _ rfl gB 0 (by go_simp) (stC (Sy.bad j)) _ (fun w h => h.2.whole) Tryz.underlying100 rfl infoStp) (InvG.mk trivial hP) ?_
     refine fRyDottedA5_49 ?_
     refine wpAnyG_take (i := 2) (v := .string ⟨#[]⟩) rfl (by kernel_rfl) (fun _ _ _ h => h) (.inl ⟨by rfl, fun w hw => by go_simp⟩) (InvG.mk trivial hP) ?_
     refine fRyDottedA5_49 ?_
     refine wpAnyG_take (i := 3) (v := .int .i64 j) rfl (by kernel_rfl) (fun _ _ _ h => h) (.inl ⟨by rfl, fun w hw => by go_simp⟩) (InvG.mk trivial hP) ?_
     refine fRyDottedA5_49 ?_
     refine wpAnyG_ready (rs := [4]) (by kernel_rfl) (by simp) ?_
     refine AllReadyG.plain rfl rfl (fun K hK => ?_) AllReadyG.nil
     refine wp_store_own' 2 100 _ _ rfl g1 0 (.agg (stC (Sy.bad j)).toArray) (stC (Sy.bad j)) rfl rfl rfl HOd.out rfl infoStp (Nat.le_refl _) (one_stC _) rfl ?_
     intro w9 HO9
     refine hK.out _ _ (InvG.past trivial (by kernel_rfl)) (fun _ => ?_)
     clear hK
     refine fRyDottedA5_49 ?_
     refine wpAnyG_done (by kernel_rfl) ?_ _
     go_wp2_with fail
     rw [HRe.out]
     refine bodyPost_ret (v := .tuple #[.string ⟨#[]⟩, .int .i64 j, .agg (stC (Sy.bad j)).toArray]) ?_ rfl ⟨rfl, HO9.below⟩
     exact results_ttc rfl rfl rfl rfl (run_load_blk (HO9.at 2 rfl) _ Tryz.underlying100 rfl infoStp)
    ·have hlt := Sy.isAt_lt ts hs
     rw [rname_yes hs] at HN1
     have htx := HSm.out.short ts[j] (List.getElem_mem hlt)
     have HR2 : Hid (R = if Sy.isAt ts (j + 1) 4 [46] then Sy.dottedL ts fu (a ++ ts[j].text ++ [46]) (j + 1 + 1) else (a ++ ts[j].text, j + 1, Sy.none0)) := Yq (by
      rw [HR.out, Sy.dottedL, rname_yes hs, if_neg (by simp [Sy.none0])])
     have Hlt2 : Hid (Sy.isAt ts (j + 1) 4 [46] = true → j + 1 < m) := Yq (fun e => by have := Sy.isAt_lt ts e; rw [HM.out] at this; exact this)
     dsimp only at HN1
     have HO2 := HO.out
     generalize ts[j] = x at *
     have hszx : (toB x.text).size ≤ 5000 := by rw [toB_size]; exact htx
     have Hc1 := Yq (toB_cat a x.text)
     clear HR hs hlt
     go_upto_region 6 with (first
      | (go_at_call 81; (refine HN1.out.mono ?_); rintro e w3 ⟨rfl, hb⟩; replace HO2 := HO2.call hb; clear hb)
      | (refine wpList_alloc_own rfl 95 rfl zT zeroRTk HO2 ?_; clear HO2; intro w4 gA HO2)
      | (refine wpList_alloc_own rfl 100 rfl zSt zeroStp HO2 ?_; clear HO2; intro w5 gB HO2)
      | (refine wpList_store_own 1 rfl 95 _ _ rfl gA 0 (tC x) rfl rfl HO2 rfl infoRTk (Nat.le_refl _) (one_tC _) rfl ?_; clear HO2; intro w6 HO2)
      | (refine wpList_store_own 0 rfl 100 _ _ rfl gB 0 (stC Sy.none0) rfl rfl HO2 rfl infoStp (Nat.le_refl _) (one_stC _) rfl ?_; clear HO2; intro w7 HO2))
     have e1 : w7.cell? ⟨gB, 1, none⟩ = some (.int .i64 0) := (HO2.at 0 rfl).cell (o := 1) rfl
     have e2 : w7.cell? ⟨gA, 1, none⟩ = some (.string (toB x.text)) := (HO2.at 1 rfl).cell (o := 1) rfl
     have HO3 : Hid (Own w [(g1, zSt)] w7) := Yq (HO2.sub (.cons _ (.cons _ (List.Sublist.refl _))))
     have HI7 := Yq (HI.out (j + 1) 4 [46] w7 HO2.below)
     clear HO2
     cases hd : Sy.isAt ts (j + 1) 4 [46]
     ·rw [hd] at HI7 HR2
      have HRe : Hid (R = (a ++ x.text, j + 1, Sy.none0)) := HR2
      have HO4 := HO3.out
      clear hd HR2
      go_wp2_with (first
       | (go_at_call 59; (refine HI7.out.mono ?_); rintro e w8 ⟨rfl, rfl⟩)
       | (refine wpList_store_own 0 rfl 100 _ _ rfl g1 0 zSt rfl rfl HO4 rfl infoStp (Nat.le_refl _) (one_stC Sy.none0) rfl ?_; clear HO4; intro w9 HO9))
      rw [HRe.out]
      refine bodyPost_ret (v := .tuple #[.string (toB a ++ toB x.text), .int .i64 ((j : Int) + 1), .agg (stC Sy.none0).toArray]) ?_ rfl ⟨by rw [Hc1.out]; rfl, HO9.below⟩
      exact results_ttc rfl rfl rfl rfl (run_load_blk (HO9.at 0 rfl) _ Tryz.underlying100 rfl infoStp)
     ·have hj2 := Hlt2.out hd
      rw [hd] at HI7 HR2
      have HRe : Hid (R = Sy.dottedL ts fu (a ++ x.text ++ [46]) (j + 1 + 1)) := Yq (by rw [HR2.out, if_pos rfl])
      have hm5 := Hfew.out
      clear hd HR2
      go_wp2_with (go_at_call 59; (refine HI7.out.mono ?_); rintro e w8 ⟨rfl, rfl⟩)
      go_roundg fu
      case measure => omega
      case rel =>
       refine ⟨a ++ x.text ++ [46], j + 1 + 1, by go_num, ?_, HO3, HRe, by omega, by omega, by omega, by omega, ?_⟩
       ·rw [show toB (a ++ x.text ++ [46]) = toB a ++ toB x.text ++ (⟨#[46]⟩ : ByteArray) from by rw [toB_cat a x.text]; exact (toB_cat (a ++ x.text) [46]).symm]
       ·simp only [List.length_append, List.length_cons, List.length_nil]
        have h9 : (m + 2 - fu) * 5001 = (m + 2 - (fu + 1)) * 5001 + 5001 := by
         rw [show m + 2 - fu = (m + 2 - (fu + 1)) + 1 by omega, Nat.succ_mul]
        omega
namespace Sy
open Lx (Bs Tok)
open Sx
theorem name_le (ts : List Tok) (i : Nat) : (name ts i).2.1 ≤ i + 1 := by unfold name; split <;> simp
theorem number_le (ts : List Tok) (i : Nat) : (number ts i).2.1 ≤ i + 1 := by unfold number; split <;> simp
theorem want_le (ts : List Tok) : ∀ (xs : List Bs) (i : Nat), (want ts i xs).1 ≤ i + xs.length
 | [], i => by simp [want]
 | t :: r, i => by
  rw [want]; split
  ·have := want_le ts r (i + 1); simp only [List.length_cons]; omega
  ·simp
theorem isAt_le {ts : List Tok} {i k : Nat} {t : Bs} (h : isAt ts i k t = true) : i < ts.length := isAt_lt ts h
theorem dottedL_le (ts : List Tok) : ∀ (n : Nat) (s : Bs) (i m : Nat), i ≤ m → ts.length ≤ m → (dottedL ts n s i).2.1 ≤ m
 | 0, s, i, m, h, _ => h
 | n + 1, s, i, m, h, hm => by
  rw [dottedL]
  split
  ·exact h
  ·rename_i h1
   have h2 : isAt ts i 1 [] = true := by
    cases c : isAt ts i 1 [] with
    | true => rfl
    | false => exact absurd (by unfold name; rw [c]; simp [bad]) h1
   have h3 := isAt_le h2
   have e : (name ts i).2.1 = i + 1 := by unfold name; rw [h2]; rfl
   rw [e]
   split
   ·rename_i h4
    have := isAt_le h4
    exact dottedL_le ts n _ _ m (by omega) hm
   ·show i + 1 ≤ m; omega
theorem dotted_le (ts : List Tok) (i : Nat) (b : Bool) (m : Nat) (h : i ≤ m) (hm : ts.length ≤ m) : (Sy.dotted ts i b).2.1 ≤ m := by
 unfold Sy.dotted; split
 ·rename_i c; have := isAt_le c.2; exact dottedL_le ts _ _ _ m (by omega) hm
 ·exact dottedL_le ts _ _ _ m h hm
end Sy
theorem flat_str1 {w : World} {g : Nat} {t : Lx.Bs} (hb : Blk w g [.string (toB t)]) : FlatV sC (frag w) (.slice (some ⟨g, 0, none⟩) 1 1) [t] :=
 ⟨some ⟨g, 0, none⟩, 1, rfl, Nat.le_refl _, by unfold maxLen; decide, (fun e => by cases e), HRow.of_cells (fun i hi => by
  obtain rfl : i = 0 := by simp [sC] at hi; exact hi
  exact hb.cell (o := 0) rfl)⟩
theorem want1_any (v : Value) (ts : List Lx.Tok) (i : Nat) (t : Lx.Bs) (g : Nat) (w : World) (h : FlatV tC (frag w) v ts) (hb : Blk w g [.string (toB t)]) (hne : t ≠ []) (hi : i ≤ 1000000) :
  Calls Tryz.prog 57 #[v, .int .i64 i, .slice (some ⟨g, 0, none⟩) 1 1] w (R2 w (Sy.want ts i [t]).1 (Sy.want ts i [t]).2) :=
 want_any v ts i _ [t] w h (flat_str1 hb) (fun u hu => by rw [List.mem_singleton.1 hu]; exact hne) hi (by simp)
theorem infoStr : (Tryz.prog.info? 9).map (fun i => (i.size, i.zero.map (fun z => z.cells.size))) = some (1, some 1) := by kernel_rfl
theorem wpList_str1_own {ops : Array Oper} {rest : List Oper} {op : Oper} {a : Act} {w w0 : World} {Q : Exit → Act → World → Prop} {l : List (Nat × List Value)} (hgd : op.guard = none) (t : ByteArray) (ho : op.op = .buildSlice 42 1 #[(0, .const (.string t))]) (HO : Own w0 l w)
  (h : ∀ w2 g, Own w0 ((g, [.string t]) :: l) w2 → wpList Tryz.prog ops Q rest (a.put op.dst (.slice (some ⟨g, 0, none⟩) 1 1)) w2) : wpList Tryz.prog ops Q (op :: rest) a w :=
 wpList_buildSlice1 hgd 42 9 _ ho [.string t] (.string t) rfl Tryz.underlying42 infoStr (by simp) (by simp) rfl (h _ _ (HO.lay [.string t] 9))
set_option maxHeartbeats 4000000 in
set_option maxRecDepth 100000 in
theorem rhead_any (v : Value) (ts : List Lx.Tok) (i : Nat) (w : World) (h : FlatV tC (frag w) v ts) (hi : i ≤ 900000) :
  Calls Tryz.prog 87 #[v, .int .i64 i] w (R3 w (tC (Sy.head ts i).1) (Sy.head ts i).2.1 (Sy.head ts i).2.2) := by
 obtain ⟨ad, cap, rfl, _, _, _⟩ := h.len
 obtain ⟨R, hR⟩ : ∃ R, R = Sy.head ts i := ⟨_, rfl⟩
 rw [← hR]
 unfold Sy.head at hR
 have HNm := Yq (fun w0 (hb : Below w.heap.size w w0) => rname_any (.slice ad ts.length cap) ts i w0 (h.mono (below_le hb)) (by omega))
 unfold R3 at HNm
 have hle := Sy.name_le ts i
 generalize Sy.name ts i = A at *
 obtain ⟨x, j, s⟩ := A
 dsimp only at hR HNm hle
 have HW := Yq (fun g w0 (hb : Below w.heap.size w w0) hx => want1_any (.slice ad ts.length cap) ts j [123] g w0 (h.mono (below_le hb)) hx (by decide) (by omega))
 unfold R2 at HW
 generalize Sy.want ts j [[123]] = B at *
 obtain ⟨k, s2⟩ := B
 dsimp only at hR HW
 have HO := Own.nil w
 have HR := Yq hR
 clear h hR
 generalize ts.length = n at *
 go_enter Tryz.func87, Tryz.ntmps87
 go_upto_region 2 with (first
  | (refine wpList_alloc_own rfl 95 rfl zT zeroRTk HO ?_; clear HO; intro w1 g1 HO)
  | (refine wpList_alloc_own rfl 100 rfl zSt zeroStp HO ?_; clear HO; intro w2 g2 HO)
  | (go_at_call 81; (refine (HNm.out _ HO.below).mono ?_); rintro e w3 ⟨rfl, hb⟩; replace HO := HO.call hb; clear hb)
  | (refine wpList_store_own 1 rfl 95 _ _ rfl _ 0 (tC x) rfl rfl HO rfl infoRTk (Nat.le_refl _) (one_tC _) rfl ?_; clear HO; intro w5 HO)
  | (refine wpList_store_own 0 rfl 100 _ _ rfl _ 0 (stC s) rfl rfl HO rfl infoStp (Nat.le_refl _) (one_stC _) rfl ?_; clear HO; intro w6 HO))
 by_cases h0 : s.2 = 0
 ·have e1 : w6.cell? ⟨_, 1, none⟩ = some (.int .i64 0) := ((HO.at 0 rfl).cell (o := 1) rfl).trans (by rw [show ((s.2 : Nat) : Int) = 0 by omega])
  have HRe : Hid (R = (x, k, s2)) := Yq (by rw [HR.out, if_neg (by simpa using h0)])
  clear HR hle
  go_upto_region 5 with (first
   | (refine wpList_str1_own rfl _ rfl HO ?_; clear HO; intro w7 g7 HO)
   | (go_at_call 57; (refine (HW.out _ _ HO.below (HO.at 0 rfl)).mono ?_); rintro e w8 ⟨rfl, hb⟩; replace HO := (HO.call hb).sub (List.sublist_cons_self _ _); clear hb)
   | (refine wpList_store_own 0 rfl 100 _ _ rfl _ 0 (stC s2) rfl rfl HO rfl infoStp (Nat.le_refl _) (one_stC _) rfl ?_; clear HO; intro w9 HO))
  refine wp_ret6 (by kernel_rfl) (by kernel_rfl) rfl (fun _ _ _ _ _ h => h) HO (.int .i64 (k)) 1 0 3 2 rfl rfl rfl rfl (by decide) (by decide) (by decide) rfl (by kernel_rfl) (.inl rfl) (by kernel_rfl) rfl (by kernel_rfl) rfl rfl (by kernel_rfl) (by kernel_rfl) (.inr rfl) (by kernel_rfl) rfl rfl (by kernel_rfl) (by kernel_rfl) Tryz.underlying95 rfl infoRTk rfl (one_tC _) Tryz.underlying100 rfl infoStp rfl (one_stC _) ?_
  intro w10 HO10
  go_wp2_with fail
  rw [HRe.out]
  refine bodyPost_ret (v := .tuple #[.agg (tC x).toArray, .int .i64 k, .agg (stC s2).toArray]) ?_ rfl ⟨rfl, HO10.below⟩
  exact results_ctc rfl (by kernel_rfl) (by kernel_rfl) (by kernel_rfl) (run_load_blk (HO10.at 3 rfl) _ Tryz.underlying95 rfl infoRTk) (run_load_blk (HO10.at 2 rfl) _ Tryz.underlying100 rfl infoStp)
 ·obtain ⟨z, hz⟩ : ∃ z, z = (s.2 : Int) := ⟨_, rfl⟩
  have e1 : w6.cell? ⟨_, 1, none⟩ = some (.int .i64 z) := ((HO.at 0 rfl).cell (o := 1) rfl).trans (by rw [hz])
  have q1 : (z == 0) = false := by rw [beq_eq_false_iff_ne]; omega
  have HRe : Hid (R = (x, j, s)) := Yq (by rw [HR.out, if_pos (by simpa using h0)])
  clear HR hle hz
  go_upto_region 3 with fail
  refine wp_ret6 (by kernel_rfl) (by kernel_rfl) rfl (fun _ _ _ _ _ h => h) HO (.int .i64 (j)) 1 0 3 2 rfl rfl rfl rfl (by decide) (by decide) (by decide) rfl (by kernel_rfl) (.inl rfl) (by kernel_rfl) rfl (by kernel_rfl) rfl rfl (by kernel_rfl) (by kernel_rfl) (.inr rfl) (by kernel_rfl) rfl rfl (by kernel_rfl) (by kernel_rfl) Tryz.underlying95 rfl infoRTk rfl (one_tC _) Tryz.underlying100 rfl infoStp rfl (one_stC _) ?_
  intro w10 HO10
  go_wp2_with fail
  rw [HRe.out]
  refine bodyPost_ret (v := .tuple #[.agg (tC x).toArray, .int .i64 j, .agg (stC s).toArray]) ?_ rfl ⟨rfl, HO10.below⟩
  exact results_ctc rfl (by kernel_rfl) (by kernel_rfl) (by kernel_rfl) (run_load_blk (HO10.at 3 rfl) _ Tryz.underlying95 rfl infoRTk) (run_load_blk (HO10.at 2 rfl) _ Tryz.underlying100 rfl infoStp)
end Go.Proofs.YtpcfdngnmigkfaaGreatDoor
