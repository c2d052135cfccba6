/- Package lexer, walked: gaps. -/
import Derived.Test.YtiopcdbginnflaaGreatDoorLxRem
namespace Go.Proofs.YtiopcdbginnflaaGreatDoor
open Go.RowKit
set_option linter.unusedVariables false
set_option linter.unusedSimpArgs false

theorem isgap_mem (b : UInt8) : Lx.isGap b = ([32, 9, 13, 10] : Lx.Bs).contains b := by
  unfold Lx.isGap; simp only [List.contains_cons, List.contains_nil, Bool.or_false, Bool.or_assoc]

set_option maxHeartbeats 1000000 in
theorem gapf_any (b : UInt8) (w : World) : Calls Tryz.prog 23 #[.int .u8 b.toNat] w fun e w' => e = .returned (.bool (Lx.isGap b)) ∧ w = w' := by
  have hx := fun w0 => idxbyte_any ⟨#[32, 9, 13, 10]⟩ b w0
  rw [isgap_mem, Lib.contains_iff_indexByte]
  have e : (⟨#[32, 9, 13, 10]⟩ : ByteArray).data.toList = [32, 9, 13, 10] := rfl
  rw [e] at hx
  generalize Lib.indexByte [32, 9, 13, 10] b = x at *
  have HX := Lib.hid hx
  clear hx e
  go_enter Tryz.func23, Tryz.ntmps23
  go_wp2_with (go_at_call 24; (with_reducible refine (HX.out _).mono ?_); rintro e w' ⟨rfl, rfl⟩)
  go_ret
  exact ⟨rfl, rfl⟩
theorem gapf_gives (w : World) : GivesB 23 #[] Lx.isGap w := fun W b _ => (gapf_any b W).mono fun e w' h => ⟨h.1, h.2 ▸ Below.refl _ _⟩
theorem gapf_enters : ∀ args w, (callFunc 23 args).run Tryz.prog w = .ok (.enter 23 args) w := enters_of Tryz.func23 (by kernel_rfl) rfl

theorem run_drop (l : Lx.Bs) : Lx.run Lx.isGap (l.drop (Lx.run Lx.isGap l)) = 0 := by
  induction l with
  | nil => rfl
  | cons b r ih =>
    rw [Lx.run_cons]
    by_cases h : Lx.isGap b = true
    · rw [if_pos h, List.drop_succ_cons]; exact ih
    · rw [if_neg h, List.drop_zero, Lx.run_cons, if_neg h]
theorem rem1_le {l : Lx.Bs} {n : Nat} (h : rem1 l = some (some n)) : 0 < n ∧ n ≤ l.length := by
  unfold rem1 at h
  split at h
  · rename_i h2
    cases h
    refine ⟨?_, Lx.run_le _ _⟩
    match l, h2 with
    | a :: b :: r, h2 =>
      simp only [List.take_succ_cons, List.take_zero, List.cons.injEq, and_true] at h2
      rw [Lx.run_cons, h2.1]; simp
  · split at h
    · simp only [Option.some.injEq, Option.map_eq_some_iff] at h
      obtain ⟨m, hm, rfl⟩ := h
      have := Lx.idx2_lt hm
      rw [List.length_drop] at this
      omega
    · cases h
/-- one round: by the gaps that come, and the remark behind them -/
theorem gap_round (l : Lx.Bs) : let n := Lx.run Lx.isGap l
    (rem1 (l.drop n) = none → (n = 0 → Lx.gapN l = (0, true)) ∧ Lx.gapN l = ((Lx.gapN (l.drop n)).1 + n, (Lx.gapN (l.drop n)).2)) ∧
    (rem1 (l.drop n) = some none → Lx.gapN l = (n, false)) ∧
    (∀ m, rem1 (l.drop n) = some (some m) → Lx.gapN l = ((Lx.gapN (l.drop (n + m))).1 + (n + m), (Lx.gapN (l.drop (n + m))).2)) := by
  intro n
  have h1 : Lx.gap1 (l.drop n) = rem1 (l.drop n) := gap1_rem _ (run_drop l)
  have hstep : Lx.gapN l = ((Lx.gapN (l.drop n)).1 + n, (Lx.gapN (l.drop n)).2) := by
    by_cases h0 : 0 < n
    · exact Lx.gapN_some (by unfold Lx.gap1; rw [if_pos h0])
    · have : n = 0 := by omega
      rw [this]; simp
  refine ⟨fun h => ⟨fun h0 => ?_, hstep⟩, fun h => ?_, fun m h => ?_⟩
  · rw [hstep, Lx.gapN_none (h1.trans h), h0]
  · rw [hstep, Lx.gapN_bad (h1.trans h)]; simp
  · rw [hstep, Lx.gapN_some (h1.trans h), List.drop_drop]
    simp only [Prod.mk.injEq, and_true]; omega

def GapPost (w : World) (B : Nat) (s : ByteArray) (p : Nat × Nat) (e : Ending) (w' : World) : Prop :=
  e = .returned (.bool (Lx.gapN s.data.toList).2) ∧ Blk w' B (scanC (rest s (Lx.gapN s.data.toList).1) (Lx.adv p (s.data.toList.take (Lx.gapN s.data.toList).1))) ∧ w.grownBy w' (some B)
/-- at the head of a round: k bytes are passed -/
def GapAt (w : World) (B : Nat) (s : ByteArray) (p : Nat × Nat) (k : Nat) (wr : World) : Prop :=
  k ≤ s.size ∧ Blk wr B (scanC (rest s k) (Lx.adv p (s.data.toList.take k))) ∧ w.grownBy wr (some B) ∧ Lx.gapN s.data.toList = ((Lx.gapN (s.data.toList.drop k)).1 + k, (Lx.gapN (s.data.toList.drop k)).2)
theorem adv_two (p : Nat × Nat) (l : Lx.Bs) (a b : Nat) : Lx.adv (Lx.adv p (l.take a)) ((l.drop a).take b) = Lx.adv p (l.take (a + b)) := by
  rw [← Lx.adv_append, List.take_add]
/-- the variables' blocks lie below B -/
def GLt (B : Nat) : Prop := 3 < B ∧ 0 < B ∧ 1 < B ∧ 22 < B ∧ 20 < B
theorem Vars.grown {A : Nat → Addr} {w w' : World} (h : Vars A w) {B : Nat} (hg : w.grownBy w' (some B)) (hlt : GLt B) (hs : B ≤ w.heap.size) : Vars A w' :=
  h.keep (Below.grown (Below.refl B w) hg hs (fun k hk => by cases hk; exact Nat.le_refl _)) hlt

set_option maxHeartbeats 4000000 in
theorem gap_any (A : Nat → Addr) (s : ByteArray) (p : Nat × Nat) (B : Nat) (w : World) (hv : Vars A w) (hG : GLt B) (hb : Blk w B (scanC s p)) (hs : s.size ≤ 50000) (h1 : p.1 ≤ 40000) (h2 : p.2 ≤ 40000) :
    Calls Tryz.prog 10 #[.pointer (some ⟨B, 0, none⟩)] w (GapPost w B s p) := by
  have Hv := Lib.hid hv
  have HG := Lib.hid hG
  have Hb := Lib.hid hb
  clear hv hG hb
  go_enter Tryz.func10, Tryz.ntmps10
  go_wp2
  go_loopg [3, 4, 5] s.size (fun g _ _ _ wx => ∃ k : Nat, k + g = s.size ∧ GapAt w B s p k wx)
  case atStart => exact ⟨0, by omega, Nat.zero_le _, Hb.out, World.grownBy.refl _ _, by simp⟩
  case round =>
    obtain ⟨k, hkg, hk, hB, hg, hgap⟩ := hrel
    have hvr : Vars A wr := Hv.out.grown hg HG.out (Nat.le_of_lt Hb.out.lt)
    obtain ⟨l, hl⟩ : ∃ l, l = s.data.toList := ⟨_, rfl⟩
    have hll : l.length = s.size := by rw [hl, len_data]
    obtain ⟨q, hq⟩ : ∃ q, q = Lx.adv p (l.take k) := ⟨_, rfl⟩
    have hadv := Lx.adv_le p (l.take k)
    rw [← hl, ← hq] at hB
    rw [← hl] at hgap
    rw [← hq, List.length_take] at hadv
    have hc0 : wr.cell? ⟨B, 0, none⟩ = some (.string (rest s k)) := hB.cell (o := 0) rfl
    have hround := gap_round (l.drop k)
    simp only at hround
    obtain ⟨n, hn⟩ : ∃ n, n = Lx.run Lx.isGap (l.drop k) := ⟨_, rfl⟩
    have hnl := Lx.run_le Lx.isGap (l.drop k)
    have HR := run_any (rest s k) _ #[] Lx.isGap wr (by rw [rest_size]; unfold maxLen; omega) (gapf_gives wr) gapf_enters
    rw [rest_list, ← hl, ← hn] at HR
    rw [← hn] at hround hnl
    rw [List.length_drop] at hnl
    have HR' := Lib.hid HR
    have HB := Lib.hid hB; have Hg := Lib.hid hg; have Hgap := Lib.hid hgap; have Hround := Lib.hid hround; have Hq := Lib.hid hq; have Hl := Lib.hid hl; have Hll := Lib.hid hll; have Hvr := Lib.hid hvr
    clear HR hB hg hgap hround hn hq hl hvr
    go_wp2_with fail
    refine HR'.out.mono ?_
    rintro e w1 ⟨rfl, hb1⟩
    have HB1 := Lib.hid (HB.out.below hb1 HB.out.lt)
    have Hg1 := Lib.hid (Hg.out.trans (grown_of_below hb1 (some B)))
    have Hv1 := Lib.hid (Hvr.out.below hb1)
    have Hlt1 := Lib.hid (HB.out.below hb1 HB.out.lt).lt
    clear hb1 hc0
    go_wp2_with fail
    refine (pass_int (rest s k) q n _ B w1 HB1.out rfl (by rw [rest_size]; omega) (by rw [rest_size]; omega) (by omega) (by omega)).mono ?_
    rintro e w2 ⟨rfl, hB2, hg2⟩
    have HB2 := Lib.hid hB2
    have Hg2 := Lib.hid (Hg1.out.trans hg2)
    have Hv2 := Hv1.out.grown hg2 HG.out (Nat.le_of_lt Hlt1.out)
    have Hadv2 := Lx.adv_le q ((rest s k).data.toList.take n)
    rw [List.length_take, len_data] at Hadv2
    have hr2 : (rest (rest s k) n).size = s.size - k - n := by rw [rest_size, rest_size]
    have hr3 : (rest s k).size = s.size - k := rest_size s k
    have HM := Lib.hid (remark_any A _ _ B w2 Hv2 HB2.out (by omega) (by omega) (by omega))
    have hlist : (rest (rest s k) n).data.toList = (l.drop k).drop n := by rw [rest_list, rest_list, Hl.out]
    unfold RemPost at HM
    rw [hlist] at HM
    clear hlist hg2 Hadv2 hB2 hr2 hr3 Hv2
    have Hrr : Hid (rest (rest s k) n = rest s (k + n)) := Lib.hid (rest_rest s k n)
    have Hadv : Hid (Lx.adv q ((rest s k).data.toList.take n) = Lx.adv p (s.data.toList.take (k + n))) := Lib.hid (by rw [rest_list, Hq.out, Hl.out, adv_two])
    cases hr : rem1 ((l.drop k).drop n) with
    | none =>
      rw [hr] at HM
      have hR := Hround.out.1 hr
      by_cases h0 : n = 0
      · have hR0 := hR.1 h0
        have Hend := Lib.hid (show Lx.gapN s.data.toList = (k + n, true) by rw [← Hl.out, Hgap.out, hR0, h0]; simp)
        have hn0 : ((n : Int) == 0) = true := by rw [h0]; rfl
        clear hR hR0 h0 hr Hround
        go_wp2_with fail
        refine HM.out.mono ?_
        rintro e w3 ⟨rfl, rfl⟩
        go_wp2_with fail
        go_ret
        refine ⟨by rw [Hend.out]; rfl, ?_, Hg2.out⟩
        rw [Hend.out, ← Hadv.out, ← Hrr.out]
        exact HB2.out
      · have Hnx := Lib.hid (show Lx.gapN s.data.toList = ((Lx.gapN (s.data.toList.drop (k + n))).1 + (k + n), (Lx.gapN (s.data.toList.drop (k + n))).2) by
          rw [← Hl.out, Hgap.out, hR.2, List.drop_drop]; simp only [Prod.mk.injEq, and_true]; omega)
        have hn0 : ((n : Int) == 0) = false := by rw [beq_eq_false_iff_ne]; omega
        clear hR hr Hround
        go_wp2_with fail
        refine HM.out.mono ?_
        rintro e w3 ⟨rfl, rfl⟩
        go_wp2_with fail
        go_roundg (s.size - (k + n))
        case measure => omega
        case rel =>
          refine ⟨k + n, by omega, by omega, ?_, Hg2.out, Hnx.out⟩
          rw [← Hadv.out, ← Hrr.out]
          exact HB2.out
    | some o =>
      cases o with
      | none =>
        rw [hr] at HM
        have Hend := Lib.hid (show Lx.gapN s.data.toList = (k + n, false) by rw [← Hl.out, Hgap.out, Hround.out.2.1 hr]; simp only [Prod.mk.injEq, and_true]; omega)
        clear hr Hround
        go_wp2_with fail
        refine HM.out.mono ?_
        rintro e w3 ⟨rfl, rfl⟩
        go_wp2_with fail
        go_ret
        refine ⟨by rw [Hend.out]; rfl, ?_, Hg2.out⟩
        rw [Hend.out, ← Hadv.out, ← Hrr.out]
        exact HB2.out
      | some m =>
        rw [hr] at HM
        have hm := rem1_le hr
        rw [List.length_drop, List.length_drop] at hm
        have hll := Hll.out
        have Hnx := Lib.hid (show Lx.gapN s.data.toList = ((Lx.gapN (s.data.toList.drop (k + (n + m)))).1 + (k + (n + m)), (Lx.gapN (s.data.toList.drop (k + (n + m)))).2) by
          rw [← Hl.out, Hgap.out, Hround.out.2.2 m hr, List.drop_drop]; simp only [Prod.mk.injEq, and_true]; omega)
        have Hrr3 : Hid (rest (rest (rest s k) n) m = rest s (k + (n + m))) := Lib.hid (by rw [rest_rest, rest_rest])
        have Hadv3 : Hid (Lx.adv (Lx.adv q ((rest s k).data.toList.take n)) (((l.drop k).drop n).take m) = Lx.adv p (s.data.toList.take (k + (n + m)))) := Lib.hid (by
          rw [Hadv.out, Hl.out, List.drop_drop, adv_two, Nat.add_assoc])
        rw [hll] at hm
        clear hr Hround hll
        go_wp2_with fail
        refine HM.out.mono ?_
        rintro e w3 ⟨rfl, hB3, hg3⟩
        have Hg3 := Lib.hid (Hg2.out.trans hg3)
        have HB3 := Lib.hid hB3
        clear hB3 hg3
        by_cases h0 : n = 0
        · have hn0 : ((n : Int) == 0) = true := by rw [h0]; rfl
          clear h0
          go_wp2_with fail
          go_roundg (s.size - (k + (n + m)))
          case measure => omega
          case rel =>
            refine ⟨k + (n + m), by omega, by omega, ?_, Hg3.out, Hnx.out⟩
            rw [← Hadv3.out, ← Hrr3.out]
            exact HB3.out
        · have hn0 : ((n : Int) == 0) = false := by rw [beq_eq_false_iff_ne]; omega
          go_wp2_with fail
          go_roundg (s.size - (k + (n + m)))
          case measure => omega
          case rel =>
            refine ⟨k + (n + m), by omega, by omega, ?_, Hg3.out, Hnx.out⟩
            rw [← Hadv3.out, ← Hrr3.out]
            exact HB3.out

end Go.Proofs.YtiopcdbginnflaaGreatDoor
