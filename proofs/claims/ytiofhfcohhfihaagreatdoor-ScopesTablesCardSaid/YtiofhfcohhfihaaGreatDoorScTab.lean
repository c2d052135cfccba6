/- Package scopes, walked: the types of a file. -/
import Derived.Test.YtiofhfcohhfihaaGreatDoorScAdd
import Derived.Test.YtiofhfcohhfihaaGreatDoorScDeep
import Derived.Test.YtiofhfcohhfihaaGreatDoorSxConv
namespace Go.Proofs.YtiofhfcohhfihaaGreatDoor
open Go.RowKit
set_option linter.unusedVariables false
set_option linter.unusedSimpArgs false

/-- what enums and messages answer -/
def TabPost (A : Nat → Addr) (w0 : World) (g : Nat) (K : List (Nat × List Value)) (r : List Sc.Ty × Option Sc.Bad) (e : Ending) (w' : World) : Prop :=
  Tab w0 g K r.1 w' ∧ match r.2 with
  | none => e = .returned .nilIface
  | some x => ∃ ev, e = .returned ev ∧ FaultV A x ev w'
theorem addAll_step (l : List Sc.Ty) (x : Sc.Raw) (r : List Sc.Raw) : Sc.addAll l (x :: r) = if (Sc.add1 l x).2.isSome then Sc.add1 l x else Sc.addAll (Sc.add1 l x).1 r := rfl
theorem rawMs_step (s : Lx.Bs) (m : Sx.Msg) (r : List Sx.Msg) : Sc.rawMs s (m :: r) = Sc.rawM s m ++ Sc.rawMs s r := by rw [Sc.rawMs]
theorem tab_few {w0 w : World} {g : Nat} {K : List (Nat × List Value)} {l : List Sc.Ty} (h : Tab w0 g K l w) : True := trivial

set_option maxHeartbeats 4000000 in
set_option maxRecDepth 100000 in
theorem senums_any (A : Nat → Addr) (w0 : World) (g : Nat) (K : List (Nat × List Value)) (l : List Sc.Ty) (s : Lx.Bs) (es : List Sx.Enm) (v : Value) (ec : List (List Value)) (w : World) (hV : VarsU A w0) (hs : s.length ≤ 30000000) (hn : ∀ e ∈ es, e.name.length ≤ 5000) (hl : l.length ≤ 40) (hT : Tab w0 g K l w)
    (hf : FlatD 4 (frag w0) v ec) (he : EnsR (frag w0) es ec) :
    Calls Tryz.prog 51 #[.pointer (some ⟨g, 0, none⟩), .string (toB s), v] w (TabPost A w0 g K (Sc.addAll l (Sc.rawEs s es))) := by
  obtain ⟨a, c, rfl, _, _, _⟩ := hf.1.len
  have hbd := hf.2
  obtain ⟨R, hR⟩ : ∃ R, R = Sc.addAll l (Sc.rawEs s es) := ⟨_, rfl⟩
  rw [← hR]
  have HV := Lib.hid hV; have HF := Lib.hid hf.1; have HE := Lib.hid he; have HN := Lib.hid hn; have HT := Lib.hid hT; have Hs := Lib.hid hs
  have HR : Hid (R = Sc.addAll l (Sc.rawEs s (es.drop 0))) := Lib.hid hR
  have Hlen := Lib.hid he.len
  obtain ⟨n, hn2⟩ : ∃ z, z = ec.length := ⟨_, rfl⟩
  rw [← hn2] at HF Hlen hbd ⊢
  have Hn := Lib.hid hn2.symm
  have hns : n ≤ 9223372036854775807 := by omega
  clear hV hf he hn hT hs hR hn2
  go_enter Tryz.func51, Tryz.ntmps51
  go_wp2_with fail
  go_loopw [13] (fun iv wr => ∃ (k : Nat) (lk : List Sc.Ty), k ≤ n ∧ iv = .int .i64 k ∧ Hid (Tab w0 g K lk wr) ∧ Hid (R = Sc.addAll lk (Sc.rawEs s (es.drop k))) ∧ lk.length ≤ 40) (fun iv _ => n - (intOf iv).toNat)
  case atStart => exact ⟨0, l, Nat.zero_le _, rfl, HT, HR, hl⟩
  case round =>
    obtain ⟨k, lk, hkn, rfl, HT, HR, hlk⟩ := hrel
    by_cases hlt : k < n
    · have hk1 : k < es.length := by rw [← Hlen.out]; exact hlt
      have hk2 : k < ec.length := by rw [Hn.out]; exact hlt
      have hle := below_le HT.out.below
      obtain ⟨d0, o0, hd0, hidx, hcell⟩ := FlatC.at (n := n) (cap := c) (a := a) (HF.out.mono hle) (by decide) (i := k) hk2 Tryz.underlying29 sizeSE
      have hr : wr.rangeAt d0 o0 ec[k] := hcell
      obtain ⟨v1, hec, hfv⟩ := HE.out.at hk1 hk2
      have hv1 := flatV_one hfv
      have Hnm := Lib.hid (HN.out es[k] (List.getElem_mem hk1))
      have HR2 : Hid (R = if (Sc.add1 lk (Sc.rawE s es[k])).2.isSome then Sc.add1 lk (Sc.rawE s es[k]) else Sc.addAll (Sc.add1 lk (Sc.rawE s es[k])).1 (Sc.rawEs s (es.drop (k + 1)))) := Lib.hid (by
        rw [HR.out, List.drop_eq_getElem_cons hk1]; rfl)
      rw [hec] at hr
      unfold Sc.rawE at HR2
      clear hcell hle hec hfv HR
      generalize es[k] = x at *
      obtain ⟨nm, vs, li, co⟩ := x
      dsimp only at hr HR2 Hnm
      have Ht := Lib.hid (show ∀ u ∈ ([.string (toB nm), v1, .int .i64 li, .int .i64 co] : List Value), u.oneCell' = true from by
        intro u hu; simp only [List.mem_cons, List.not_mem_nil, or_false] at hu
        rcases hu with rfl | rfl | rfl | rfl
        · rfl
        · exact hv1
        · rfl
        · rfl)
      clear hv1
      go_upto_region 4 with (first
        | (refine wpList_load_seg rfl 97 _ rfl _ _ rfl _ _ hr Tryz.underlying97 rfl infoEn ?_)
        | (refine wpList_alloc_lay rfl 97 rfl zEn zeroEn ?_; (intro w7 g7 hg7 hB7 hb7; clear hr))
        | (refine wpList_store_all rfl 97 _ _ rfl g7 [.string (toB nm), v1, .int .i64 li, .int .i64 co] rfl rfl zEn hB7 infoEn rfl Ht.out ?_; (intro w8 hB8 hgr8; have hb8 := Below.grown hb7 hgr8 hb7.size (fun _ e => by cases e; exact hg7); clear hb7 hgr8 hB7)))
      have y0 : w8.cell? ⟨g7, 0, none⟩ = some (.string (toB nm)) := hB8.cell (o := 0) rfl
      have y2 : w8.cell? ⟨g7, 2, none⟩ = some (.int .i64 li) := hB8.cell (o := 2) rfl
      have y3 : w8.cell? ⟨g7, 3, none⟩ = some (.int .i64 co) := hB8.cell (o := 3) rfl
      have HT8 := Lib.hid (HT.out.keep hb8)
      have HA := Lib.hid (add_any A w0 g K lk s nm true li co w8 (HV.out.keep HT8.out.below) Hs.out Hnm.out hlk HT8.out)
      have Hfew := Lib.hid (Sc.add1_few hlk ⟨Sc.within s nm, true, li, co⟩)
      clear hB8 hb8 hg7 hd0 hidx hk1 hk2
      generalize Sc.add1 lk ⟨Sc.within s nm, true, li, co⟩ = r at *
      obtain ⟨l2, er⟩ := r
      unfold AddPost at HA
      dsimp only at HA HR2 Hfew
      cases er with
      | none =>
        simp only [Option.isSome_none, Bool.false_eq_true, if_false] at HA HR2
        go_wp2_with fail
        refine HA.out.mono ?_
        rintro e w9 ⟨hT9, rfl⟩
        have HT9 := Lib.hid hT9
        have hfew := Hfew.out
        clear hT9 y0 y2 y3
        go_wp2_with fail
        go_roundw
        case rel => exact ⟨k + 1, l2, by omega, by go_num, HT9, HR2, hfew⟩
        case measure => simp [intOf]; omega
      | some x =>
        simp only [Option.isSome_some, if_true] at HA HR2
        go_wp2_with fail
        refine HA.out.mono ?_
        rintro e w9 ⟨hT9, ev, rfl, gf, rfl, hBf⟩
        have HT9 := Lib.hid hT9; have HBf := Lib.hid hBf
        clear hT9 y0 y2 y3 hBf
        go_wp2_with fail
        go_ret
        rw [HR2.out]
        exact ⟨HT9.out, _, rfl, gf, rfl, HBf.out⟩
    · obtain rfl : n = k := by omega
      have HRe : Hid (R = (lk, none)) := Lib.hid (by
        rw [HR.out, List.drop_of_length_le (by rw [← Hlen.out]; exact Nat.le_refl _)]; rfl)
      clear HR hkn hlt
      go_wp2_with fail
      go_ret
      rw [HRe.out]
      exact ⟨HT.out, rfl⟩

def messagesAt (A : Nat → Addr) (w0 : World) (g N : Nat) : Prop := ∀ (K : List (Nat × List Value)) (l : List Sc.Ty) (s : Lx.Bs) (ms : List Sx.Msg) (v : Value) (mc : List (List Value)) (w : World), s.length + N * 5001 ≤ 29000000 → (∀ m ∈ ms, Sx.DeepM N m) → l.length ≤ 40 → Tab w0 g K l w → FlatD 9 (frag w0) v mc → MsgsR (frag w0) ms mc →
  Calls Tryz.prog 52 #[.pointer (some ⟨g, 0, none⟩), .string (toB s), v] w (TabPost A w0 g K (Sc.addAll l (Sc.rawMs s ms)))

set_option maxHeartbeats 16000000 in
set_option maxRecDepth 100000 in
theorem messages_succ (A : Nat → Addr) (w0 : World) (g N : Nat) (hV : VarsU A w0) (ih : ∀ M, N = M + 1 → messagesAt A w0 g M) : messagesAt A w0 g N := by
  intro K l s ms v mc w hs hd hl hT hf he
  obtain ⟨a, c, rfl, _, _, _⟩ := hf.1.len
  have hbd := hf.2
  obtain ⟨R, hR⟩ : ∃ R, R = Sc.addAll l (Sc.rawMs s ms) := ⟨_, rfl⟩
  rw [← hR]
  have HV := Lib.hid hV; have HF := Lib.hid hf.1; have HE := Lib.hid he; have HD := Lib.hid hd; have HT := Lib.hid hT; have Hs := Lib.hid hs
  have HR : Hid (R = Sc.addAll l (Sc.rawMs s (ms.drop 0))) := Lib.hid hR
  have Hlen := Lib.hid he.len
  have Hih := Lib.hid ih
  obtain ⟨n, hn2⟩ : ∃ z, z = mc.length := ⟨_, rfl⟩
  rw [← hn2] at HF Hlen hbd ⊢
  have Hn := Lib.hid hn2.symm
  have hns : n ≤ 9223372036854775807 := by omega
  clear hV hf he hd hT hs hR hn2 ih
  go_enter Tryz.func52, Tryz.ntmps52
  go_wp2_with fail
  go_loopw [15] (fun iv wr => ∃ (k : Nat) (lk : List Sc.Ty), k ≤ n ∧ iv = .int .i64 k ∧ Hid (Tab w0 g K lk wr) ∧ Hid (R = Sc.addAll lk (Sc.rawMs s (ms.drop k))) ∧ lk.length ≤ 40) (fun iv _ => n - (intOf iv).toNat)
  case atStart => exact ⟨0, l, Nat.zero_le _, rfl, HT, HR, hl⟩
  case round =>
    obtain ⟨k, lk, hkn, rfl, HT, HR, hlk⟩ := hrel
    by_cases hlt : k < n
    · have hk1 : k < ms.length := by rw [← Hlen.out]; exact hlt
      have hk2 : k < mc.length := by rw [Hn.out]; exact hlt
      have hle := below_le HT.out.below
      obtain ⟨d0, o0, hd0, hidx, hcell⟩ := FlatC.at (n := n) (cap := c) (a := a) (HF.out.mono hle) (by decide) (i := k) hk2 Tryz.underlying28 sizeSM
      have hr : wr.rangeAt d0 o0 mc[k] := hcell
      have hm := HE.out.at hk1 hk2
      have Hone := Lib.hid hm.one
      have hdm := HD.out ms[k] (List.getElem_mem hk1)
      obtain ⟨M, rfl⟩ : ∃ M, N = M + 1 := by
        cases N with
        | zero => exact absurd hdm (fun h => h)
        | succ M => exact ⟨M, rfl⟩
      have HI := Lib.hid (Hih.out M rfl)
      have HRm : Hid (R = Sc.addAll lk (Sc.rawM s ms[k] ++ Sc.rawMs s (ms.drop (k + 1)))) := Lib.hid (by
        rw [HR.out, List.drop_eq_getElem_cons hk1, rawMs_step])
      clear hcell hle HR Hih
      generalize ms[k] = x at *
      generalize mc[k] = xc at *
      obtain ⟨nm, fs, os, mss, es, rs, nss, li, co⟩ := x
      rw [MsgR] at hm
      obtain ⟨v1, v2, v3, v4, v5, v6, m3, m4, rfl, ⟨q1, q2, q3, q4, q5, q6⟩, hm3, hm4⟩ := hm
      obtain ⟨a3, c3, rfl, _, _, _⟩ := q3.1.len
      obtain ⟨a4, c4, rfl, _, _, _⟩ := q4.1.len
      have HQ3 := Lib.hid q3; have HQ4 := Lib.hid q4; have HM3 := Lib.hid hm3; have HM4 := Lib.hid hm4
      have Hdm := Lib.hid hdm
      obtain ⟨F, hF⟩ : ∃ F, F = Sc.within s nm := ⟨_, rfl⟩
      have HFl : Hid (F.length + M * 5001 ≤ 29000000) := Lib.hid (by
        have h1 := within_len s nm
        have h2 := hdm.1
        have h3 := Hs.out
        rw [hF]; omega)
      rw [Sc.rawM, ← hF, List.cons_append, addAll_step, List.append_assoc] at HRm
      clear hdm hm3 hm4 q1 q2 q3 q4 q5 q6
      go_upto_region 4 with (first
        | (refine wpList_load_seg rfl 47 _ rfl _ _ rfl _ _ hr Tryz.underlying47 rfl infoMs ?_)
        | (refine wpList_alloc_lay rfl 47 rfl zMs zeroMs ?_; (intro w7 g7 hg7 hB7 hb7; clear hr))
        | (refine wpList_store_all rfl 47 _ _ rfl g7 [.string (toB nm), v1, v2, .slice a3 m3.length c3, .slice a4 m4.length c4, v5, v6, .int .i64 li, .int .i64 co] rfl rfl zMs hB7 infoMs rfl Hone.out ?_; (intro w8 hB8 hgr8; have hb8 := Below.grown hb7 hgr8 hb7.size (fun _ e => by cases e; exact hg7); clear hb7 hgr8 hB7)))
      have y0 : w8.cell? ⟨g7, 0, none⟩ = some (.string (toB nm)) := hB8.cell (o := 0) rfl
      have y2 : w8.cell? ⟨g7, 7, none⟩ = some (.int .i64 li) := hB8.cell (o := 7) rfl
      have y3 : w8.cell? ⟨g7, 8, none⟩ = some (.int .i64 co) := hB8.cell (o := 8) rfl
      have HT8 := Lib.hid (HT.out.more hb8 hB8 hg7)
      have HA := Lib.hid (add_any A w0 g _ lk s nm false li co w8 (HV.out.keep HT8.out.below) (by have := Hs.out; omega) Hdm.out.1 hlk HT8.out)
      have Hfew := Lib.hid (Sc.add1_few hlk ⟨F, false, li, co⟩)
      rw [← hF] at HA
      clear hB8 hb8 hg7 hd0 hidx hk1 hk2 hF
      generalize Sc.add1 lk ⟨F, false, li, co⟩ = r at *
      obtain ⟨l2, er⟩ := r
      unfold AddPost at HA
      dsimp only at HA HRm Hfew
      cases er with
      | some x =>
        simp only [Option.isSome_some, if_true] at HA HRm
        go_wp2_with fail
        refine HA.out.mono ?_
        rintro e w9 ⟨hT9, ev, rfl, gf, rfl, hBf⟩
        have HT9 := Lib.hid hT9; have HBf := Lib.hid hBf
        clear hT9 y0 y2 y3 hBf
        go_wp2_with fail
        go_ret
        rw [HRm.out]
        exact ⟨HT9.out.sub (fun _ h => List.mem_cons_of_mem _ h), _, rfl, gf, rfl, HBf.out⟩
      | none =>
        simp only [Option.isSome_none, Bool.false_eq_true, if_false] at HA HRm
        rw [Sc.addAll_append] at HRm
        go_wp2_with fail
        refine HA.out.mono ?_
        rintro e w9 ⟨hT9, rfl⟩
        have HT9 := Lib.hid hT9
        have z4 : w9.cell? ⟨g7, 4, none⟩ = some (.slice a4 m4.length c4) := (hT9.blk 0 rfl).cell (o := 4) rfl
        have HEn := Lib.hid (senums_any A w0 g _ l2 F es (.slice a4 m4.length c4) m4 w9 HV.out (by have := HFl.out; omega) Hdm.out.2.1 Hfew.out hT9 HQ4.out HM4.out)
        have Hfew2 := Lib.hid (Sc.addAll_few Hfew.out (Sc.rawEs F es))
        clear hT9 y0 y2 y3
        generalize Sc.addAll l2 (Sc.rawEs F es) = r2 at *
        obtain ⟨l3, er2⟩ := r2
        unfold TabPost at HEn
        dsimp only at HEn HRm Hfew2
        cases er2 with
        | some x =>
          simp only [Option.isSome_some, if_true] at HEn HRm
          go_wp2_with fail
          refine HEn.out.mono ?_
          rintro e w10 ⟨hT10, ev, rfl, gf, rfl, hBf⟩
          have HT10 := Lib.hid hT10; have HBf := Lib.hid hBf
          clear hT10 hBf z4
          go_wp2_with fail
          go_ret
          rw [HRm.out]
          exact ⟨HT10.out.sub (fun _ h => List.mem_cons_of_mem _ h), _, rfl, gf, rfl, HBf.out⟩
        | none =>
          simp only [Option.isSome_none, Bool.false_eq_true, if_false] at HEn HRm
          rw [Sc.addAll_append] at HRm
          go_wp2_with fail
          refine HEn.out.mono ?_
          rintro e w10 ⟨hT10, rfl⟩
          have HT10 := Lib.hid hT10
          have z3 : w10.cell? ⟨g7, 3, none⟩ = some (.slice a3 m3.length c3) := (hT10.blk 0 rfl).cell (o := 3) rfl
          have HMs := Lib.hid (HI.out _ l3 F mss (.slice a3 m3.length c3) m3 w10 HFl.out Hdm.out.2.2 Hfew2.out hT10 HQ3.out HM3.out)
          have Hfew3 := Lib.hid (Sc.addAll_few Hfew2.out (Sc.rawMs F mss))
          clear hT10 z4
          generalize Sc.addAll l3 (Sc.rawMs F mss) = r3 at *
          obtain ⟨l4, er3⟩ := r3
          unfold TabPost at HMs
          dsimp only at HMs HRm Hfew3
          cases er3 with
          | some x =>
            simp only [Option.isSome_some, if_true] at HMs HRm
            go_wp2_with fail
            refine HMs.out.mono ?_
            rintro e w11 ⟨hT11, ev, rfl, gf, rfl, hBf⟩
            have HT11 := Lib.hid hT11; have HBf := Lib.hid hBf
            clear hT11 hBf z3
            go_wp2_with fail
            go_ret
            rw [HRm.out]
            exact ⟨HT11.out.sub (fun _ h => List.mem_cons_of_mem _ h), _, rfl, gf, rfl, HBf.out⟩
          | none =>
            simp only [Option.isSome_none, Bool.false_eq_true, if_false] at HMs HRm
            go_wp2_with fail
            refine HMs.out.mono ?_
            rintro e w11 ⟨hT11, rfl⟩
            have HT11 := Lib.hid (hT11.sub (K' := K) (fun _ h => List.mem_cons_of_mem _ h))
            have hfew := Hfew3.out
            clear hT11 z3
            go_wp2_with fail
            go_roundw
            case rel => exact ⟨k + 1, l4, by omega, by go_num, HT11, HRm, hfew⟩
            case measure => simp [intOf]; omega
    · obtain rfl : n = k := by omega
      have HRe : Hid (R = (lk, none)) := Lib.hid (by
        rw [HR.out, List.drop_of_length_le (by rw [← Hlen.out]; exact Nat.le_refl _)]
        rw [Sc.rawMs]; rfl)
      clear HR hkn hlt
      go_wp2_with fail
      go_ret
      rw [HRe.out]
      exact ⟨HT.out, rfl⟩
theorem messages_at (A : Nat → Addr) (w0 : World) (g : Nat) (hV : VarsU A w0) : ∀ N, messagesAt A w0 g N
  | 0 => messages_succ A w0 g 0 hV (fun M e => by omega)
  | N + 1 => messages_succ A w0 g (N + 1) hV (fun M e => by obtain rfl : N = M := by omega
                                                            exact messages_at A w0 g hV N)

/-- what scopes.Of answers: the table, or the fault -/
def ScopePost (A : Nat → Addr) (w : World) (r : List Sc.Ty × Option Sc.Bad) (e : Ending) (w' : World) : Prop :=
  Below w.heap.size w w' ∧ match r.2 with
  | none => ∃ g, e = .returned (.tuple #[.pointer (some ⟨g, 0, none⟩), .nilIface]) ∧ Tab w g [] r.1 w'
  | some x => ∃ ev, e = .returned (.tuple #[.pointer none, ev]) ∧ FaultV A x ev w'
theorem tab_build (b : Option Nat) (w : World) : (Instr.build 119 #[(1, .map b)]).run Tryz.prog w = .ok (.agg #[.slice none 0 0, .map b, .int .i64 0, .int .i64 0]) w := by kernel_rfl
theorem own_zero {w : World} {B : Nat} {e : TypeId} {size : Nat} : w.ownsRow B e size (.slice none 0 0) 0 [] := World.ownsRow_nil _ _ _ _

set_option maxHeartbeats 4000000 in
set_option maxRecDepth 100000 in
theorem scopes_of_any (A : Nat → Addr) (f : Sx.Fil) (cs : List Value) (w : World) (hV : VarsU A w) (hd : Sx.DeepF f) (hf : FilR (frag w) f cs) :
    Calls Tryz.prog 19 #[.agg cs.toArray] w (ScopePost A w (Sc.table f)) := by
  obtain ⟨R, hR⟩ : ∃ R, R = Sc.table f := ⟨_, rfl⟩
  rw [← hR]
  obtain ⟨v1, v2, m1, m2, rfl, ⟨q1, q2⟩, hm1, hm2⟩ := hf
  obtain ⟨a1, c1, rfl, _, _, _⟩ := q1.1.len
  obtain ⟨a2, c2, rfl, _, _, _⟩ := q2.1.len
  obtain ⟨pk, ms, es⟩ := f
  dsimp only at hm1 hm2
  have HRm : Hid (R = Sc.addAll [] (Sc.rawEs pk es ++ Sc.rawMs pk ms)) := Lib.hid hR
  rw [Sc.addAll_append] at HRm
  have HV := Lib.hid hV; have HQ1 := Lib.hid q1; have HQ2 := Lib.hid q2; have HM1 := Lib.hid hm1; have HM2 := Lib.hid hm2; have HD := Lib.hid hd
  have hbd := tab_build
  have hmm := @run_makeMap Tryz.prog
  clear hV q1 q2 hm1 hm2 hd hR
  go_enter Tryz.func19, Tryz.ntmps19
  go_upto_region 1 with (first
    | (refine wpList_box_lay rfl 31 _ rfl [.string (toB pk), .slice a1 m1.length c1, .slice a2 m2.length c2] rfl ?_; (intro w1 g1 hg1 hB1 hb1)))
  have HB1 := Lib.hid hB1; have Hb1 := Lib.hid hb1; have Hg1 := Lib.hid hg1
  clear hB1 hb1 hg1
  go_upto_region 2 with (first
    | (refine wpList_box_lay rfl 119 _ rfl [.slice none 0 0, .map (some w1.heap.size), .int .i64 0, .int .i64 0] rfl ?_; (intro w3 g3 hg3 hB3 hb3)))
  have hT3 : Tab w g3 [(g1, [.string (toB pk), .slice a1 m1.length c1, .slice a2 m2.length c2])] [] w3 := by
    have hsz : (w1.alloc (.map #[] 0)).heap.size = w1.heap.size + 1 := by simp
    have hba : Below w1.heap.size w1 (w1.alloc (.map #[] 0)) := (Below.refl _ _).alloc (Nat.le_refl _) _
    refine ⟨.slice none 0 0, w1.heap.size, hB3, own_zero, ?_, ⟨Hb1.out.size, by have := Hb1.out.size; omega, by omega, by simp [Value.ownBlock]⟩, (Hb1.out.trans (hba.mono Hb1.out.size)).trans (hb3.mono (by have := Hb1.out.size; omega)), fun x hx => ?_⟩
    · exact (MapIs.made w1).kept (row := none) (grown_of_below hb3 none) (by simp)
    · rw [List.mem_singleton.1 hx]
      have h1 := HB1.out.lt
      exact ⟨(HB1.out.below hba h1).below hb3 (by omega), by omega, by omega, by simp [Value.ownBlock]⟩
  have HT3 := Lib.hid hT3
  have x0 : w3.cell? ⟨g1, 0, none⟩ = some (.string (toB pk)) := (hT3.blk 0 rfl).cell (o := 0) rfl
  have x2 : w3.cell? ⟨g1, 2, none⟩ = some (.slice a2 m2.length c2) := (hT3.blk 0 rfl).cell (o := 2) rfl
  have HEn := Lib.hid (senums_any A w g3 _ [] pk es (.slice a2 m2.length c2) m2 w3 HV.out (by have := HD.out.pack; dsimp only at this; omega) HD.out.enums (by decide) hT3 HQ2.out HM2.out)
  have Hfew := Lib.hid (Sc.addAll_few (l := []) (by decide) (Sc.rawEs pk es))
  clear hT3 hB3 hb3 hg3 hbd hmm
  generalize Sc.addAll [] (Sc.rawEs pk es) = r at *
  obtain ⟨l2, er⟩ := r
  unfold TabPost at HEn
  dsimp only at HEn HRm Hfew
  cases er with
  | some x =>
    simp only [Option.isSome_some, if_true] at HEn HRm
    go_wp2_with fail
    refine HEn.out.mono ?_
    rintro e w4 ⟨hT4, ev, rfl, gf, rfl, hBf⟩
    have HT4 := Lib.hid hT4; have HBf := Lib.hid hBf
    clear hT4 hBf x0 x2
    go_wp2_with fail
    go_ret2
    rw [HRm.out]
    exact ⟨HT4.out.below, _, rfl, gf, rfl, HBf.out⟩
  | none =>
    simp only [Option.isSome_none, Bool.false_eq_true, if_false] at HEn HRm
    go_wp2_with fail
    refine HEn.out.mono ?_
    rintro e w4 ⟨hT4, rfl⟩
    have HT4 := Lib.hid hT4
    have z0 : w4.cell? ⟨g1, 0, none⟩ = some (.string (toB pk)) := (hT4.blk 0 rfl).cell (o := 0) rfl
    have z1 : w4.cell? ⟨g1, 1, none⟩ = some (.slice a1 m1.length c1) := (hT4.blk 0 rfl).cell (o := 1) rfl
    have HMs := Lib.hid (messages_at A w g3 HV.out 8 _ l2 pk ms (.slice a1 m1.length c1) m1 w4 (by have := HD.out.pack; dsimp only at this; omega) HD.out.msgs Hfew.out hT4 HQ1.out HM1.out)
    clear hT4 x0 x2
    generalize Sc.addAll l2 (Sc.rawMs pk ms) = r3 at *
    obtain ⟨l4, er3⟩ := r3
    unfold TabPost at HMs
    dsimp only at HMs HRm
    cases er3 with
    | some x =>
      dsimp only at HMs HRm
      go_wp2_with fail
      refine HMs.out.mono ?_
      rintro e w5 ⟨hT5, ev, rfl, gf, rfl, hBf⟩
      have HT5 := Lib.hid hT5; have HBf := Lib.hid hBf
      clear hT5 hBf z0 z1
      go_wp2_with fail
      go_ret2
      rw [HRm.out]
      exact ⟨HT5.out.below, _, rfl, gf, rfl, HBf.out⟩
    | none =>
      dsimp only at HMs HRm
      go_wp2_with fail
      refine HMs.out.mono ?_
      rintro e w5 ⟨hT5, rfl⟩
      have HT5 := Lib.hid hT5
      clear hT5 z0 z1
      go_wp2_with fail
      go_ret2
      rw [HRm.out]
      exact ⟨HT5.out.below, _, rfl, HT5.out.sub (fun _ h => by cases h)⟩

end Go.Proofs.YtiofhfcohhfihaaGreatDoor
