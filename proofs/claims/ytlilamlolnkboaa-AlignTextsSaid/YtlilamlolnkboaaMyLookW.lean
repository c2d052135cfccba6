/- myers.behind: look and from, walked. -/
import Derived.Test.YtlilamlolnkboaaMyLook
namespace Go.Proofs.Ytlilamlolnkboaa
open Go.RowKit Go.WideShapes
open My (D Least Slid Ok U)
set_option linter.unusedVariables false

def LOut (w : World) (b : Nat) (t : TypeId) (xs ys : List Int) (va vb : Value) (i : Value) (wr : World) : Prop :=
  ∃ (e : Nat) (vr : Value) (vals : List Value) (rows : List (List Int)), e ≤ D xs ys 0 0 ∧ i = .int .i64 e ∧ vals.length = e ∧ RowsOk xs ys e rows ∧ LS w b t xs ys va vb vr vals rows [] wr
def LIn (w : World) (b : Nat) (t : TypeId) (xs ys : List Int) (va vb vr : Value) (vals : List Value) (rows : List (List Int)) (e g m : Nat) (i : Value) (wr : World) : Prop :=
  ∃ (k : Nat) (row : List Int), k ≤ m ∧ i = .int .i64 k ∧ row.length = k ∧ (∀ j (hj : j < row.length), Least xs ys e (((xs.length : Int) - ys.length) + j - e) row[j]) ∧
    wr.ownsRow w.heap.size 3 1 (.slice (some ⟨g, 0, none⟩) m m) m (intVals row ++ List.replicate (m - k) (.int .i64 0)) ∧ LS w b t xs ys va vb vr vals rows [some g] wr
def LookPost (w : World) (b : Nat) (t : TypeId) (xs ys : List Int) (va vb : Value) (e : Ending) (w' : World) : Prop :=
  e = .returned (.bool true) ∧ ∃ vr rows, BV (frag w') b xs ys rows va vb vr ∧ RowsOk xs ys (D xs ys 0 0 + 1) rows ∧ rows.length = D xs ys 0 0 + 1 ∧ w.grownBy w' (some b)

theorem RowsOk.snoc {xs ys : List Int} {e : Nat} {rows : List (List Int)} {row : List Int} (h : RowsOk xs ys e rows) (hl : rows.length = e) (h1 : row.length = 2 * e + 1) (h2 : ∀ j (hj : j < row.length), Least xs ys e (((xs.length : Int) - ys.length) + j - e) row[j]) : RowsOk xs ys (e + 1) (rows ++ [row]) := by
  intro f hf
  by_cases e1 : f < e
  · obtain ⟨g1, g2, g3⟩ := h f e1
    refine ⟨by simp; omega, ?_⟩
    rw [List.getElem_append_left g1]
    exact ⟨g2, g3⟩
  · obtain rfl : f = e := by omega
    refine ⟨by simp; omega, ?_⟩
    rw [List.getElem_append_right (by omega)]
    simp only [hl, Nat.sub_self, List.getElem_cons_zero]
    exact ⟨h1, h2⟩
theorem RowsOk.more {xs ys : List Int} {e : Nat} {rows : List (List Int)} (h : RowsOk xs ys e rows) (x : List (List Int)) : RowsOk xs ys e (rows ++ x) := by
  intro f hf
  obtain ⟨g1, g2, g3⟩ := h f hf
  refine ⟨by simp; omega, ?_⟩
  rw [List.getElem_append_left g1]
  exact ⟨g2, g3⟩

theorem own_idx' {P : Program} {t : TypeId} {g n cap i : Nat} (hi : i < n) (ht : P.underlying t = some (.slice (P.elem t))) (hs : ∀ w, (sizeOf (P.elem t)).run P w = .ok 1 w) (w : World) :
    (Instr.indexAt t (.slice (some ⟨g, 0, none⟩) n cap) (.int .i64 i)).run P w = .ok (.pointer (some ⟨g, i, none⟩)) w := by
  rw [run_indexAt_slice (h := ht), if_pos (by omega), hs]
  simp [Result.andThen, Addr.add_none]

set_option maxRecDepth 100000 in
set_option maxHeartbeats 8000000 in
theorem look_any (b : Nat) (t : TypeId) (xs ys : List Int) (va vb : Value) (w : World) (hv : LS w b t xs ys va vb (.slice none 0 0) [] [] [] w) (hx : xs.length < 1000000) (hy : ys.length < 1000000) (hD : D xs ys 0 0 ≤ 400) :
    Calls Try.prog 26 #[.pointer (some ⟨b, 0, none⟩)] w (LookPost w b t xs ys va vb) := by
  have Hv := Lib.hid hv; clear hv
  have Hx := Lib.hid hx; have Hy := Lib.hid hy
  obtain ⟨N, hN⟩ : ∃ N, N = D xs ys 0 0 := ⟨_, rfl⟩
  rw [← hN] at hD
  have HN := Lib.hid hN; clear hN
  obtain ⟨i0, hi, hz0, hz1, hz2⟩ := info_parts T_ints.info
  have Hi := Lib.hid hi; have Hz0 := Lib.hid hz0; have Hz1 := Lib.hid hz1; have Hz2 := Lib.hid hz2
  clear hi hz0 hz1 hz2
  generalize hz : (xs.length : Int) - ys.length = z at *
  have hzb : -1000000 < z ∧ z < 1000000 := by omega
  obtain ⟨hzb1, hzb2⟩ := hzb
  have Hz := Lib.hid hz; clear hz
  go_enter Try.func26, Try.ntmps26
  go_wp2_with fail
  go_loopw [3] (LOut w b t xs ys va vb) (fun i _ => 401 - (intOf i).toNat)
  case atStart => exact ⟨0, _, [], [], Nat.zero_le _, rfl, rfl, fun e he => by omega, Hv.out⟩
  case round =>
    obtain ⟨e, vr, vals, rows, he, rfl, hvl, hrows, hst⟩ := hrel
    rw [← HN.out] at he
    have he4 : (e : Int) ≤ 400 := by omega
    obtain ⟨hc0, hc1, hc2, hb⟩ := hst.bv.cells
    have hszb := hst.hg.size
    have hblt := hst.hlt
    obtain ⟨vv, hvv⟩ : ∃ a c, vr = .slice a e c := by
      obtain ⟨a, c, h, _⟩ := HRow.of_owns (E := []) hst.ho (.inr (by simp))
      rw [hvl] at h
      exact ⟨a, c, h⟩
    obtain ⟨cv, rfl⟩ := hvv
    have Hst := Lib.hid hst; have Hrows := Lib.hid hrows; have Hvl := Lib.hid hvl
    clear hst hrows hvl
    have hmk : (2 : Int) * e + 1 = ((2 * e + 1 : Nat) : Int) := by omega
    obtain ⟨m, hm⟩ : ∃ m, m = 2 * e + 1 := ⟨_, rfl⟩
    rw [← hm] at hmk
    have Hm := Lib.hid hm
    have hm4 : m ≤ 801 := by omega
    clear hm
    go_wp2_with (at_make; refine wpList_make_full _ rfl _ _ 40 rfl w.heap.size 3 i0 (.int .i64 0) 1 Try.underlying40 Hi.out Hz0.out Hz1.out .i64 .i64 _ _ m rfl rfl (by first | rfl | exact congrArg _ hmk) (by first | rfl | exact congrArg _ hmk) ?_ ?_ ?_ ?_)
    · rw [Hz2.out]; omega
    · unfold maxLen; omega
    · exact hszb
    · intro w1 hrow hg1
      obtain ⟨g, hgd⟩ : ∃ g, g = wr.heap.size := ⟨_, rfl⟩
      rw [← hgd] at hrow ⊢
      have hB1 : Below wr.heap.size wr w1 := (Below.refl _ _).grown hg1 (Nat.le_refl _) (by intro k hk; cases hk)
      have Hst1 := Lib.hid (Hst.out.below hB1 (E' := [some g]) (by
        intro k hk
        right
        simp only [List.mem_cons, List.not_mem_nil, or_false, Option.some.injEq] at hk
        omega))
      rw [toList_madeCells_one] at hrow
      have hgb : b ≠ g := by omega
      have hvg : (Value.slice vv e cv).ownBlock ≠ some g := by rw [hgd]; exact own_ne Hst.out.ho (Nat.le_refl _)
      have hc2' := (hB1.cell (p := ⟨b, 2, none⟩) hb).trans hc2
      have Hrow := Lib.hid hrow; have Hgd := Lib.hid hgd; have Hvg := Lib.hid hvg
      have hsz1 := Nat.le_trans hszb hg1.size
      clear hrow hgd hvg hg1 hB1
      go_wp2_with (at_builtin; refine wpList_append_at T_intss rfl _ _ rfl #[_] rfl Hst1.out.ho rfl rfl (by simp [Value.oneCell']) (by rw [Hvl.out]; omega) hsz1 ?_)
      intro v' w2 hown2 hg2 hat2
      have hcb := Hst1.out.hc
      have hneb : some b ≠ (Value.slice vv e cv).ownBlock := fun e2 => by have := own_ge Hst1.out.ho b e2.symm; omega
      have hcb2 := (hg2.block b (heap_lt hcb) hneb).trans hcb
      have hcell2 : w2.cell? ⟨b, 2, none⟩ = some (.slice vv e cv) := by rw [cell_of_row w2 b 2 _ t _ hcb2]; rfl
      have hfr2 : w2.frozen? ⟨b, 2, none⟩ = false := frozen_of_row w2 b 2 _ t hcb2
      have Hst3 := Lib.hid (Hst1.out.row hown2 hg2 hat2)
      have Hrow3 := Lib.hid ((Hrow.out.kept hg2 (.inr (fun e2 => Hvg.out e2.symm))).kept (grown_setCell w2 ⟨b, 2, none⟩ v') (.inr (by simp [Value.ownBlock]; exact fun e2 => hgb e2.symm)))
      obtain ⟨gv, cap2, rfl⟩ : ∃ gv cap, v' = .slice (some ⟨gv, 0, none⟩) (e + 1) cap := by
        have ho := hown2
        rw [Hvl.out] at ho
        rcases ho.2 with ⟨_, h⟩ | ⟨g, cap, cur, h, _⟩
        · omega
        · exact ⟨g, cap, h⟩
      clear hown2 hg2 hat2 hcb hcb2 hneb Hst1 Hrow
      go_wp2_with fail
      obtain ⟨wo, rfl⟩ : ∃ wo : World, wo = wr := ⟨_, rfl⟩
      go_loopw [25] (LIn w b t xs ys va vb (.slice (some ⟨gv, 0, none⟩) (e + 1) cap2) (vals ++ [.slice none 0 0]) (rows ++ [[]]) e g m) (fun i _ => m - (intOf i).toNat)
      case atStart => exact ⟨0, [], Nat.zero_le _, rfl, rfl, fun j hj => by simp at hj, by simpa [intVals] using Hrow3.out, Hst3.out⟩
      case round =>
        obtain ⟨k, row, hk, rfl, hrl, hleast, hrow, hst⟩ := hrel
        have HrowI := Lib.hid hrow; have HstI := Lib.hid hst; have Hrl := Lib.hid hrl; have Hle := Lib.hid hleast
        clear hrow hst hrl hleast Hst3 Hrow3
        by_cases hlt : k < m
        · have HE := Lib.hid (fun w' (h : Below wr.heap.size wr w') => end_any b xs ys _ _ _ _ w' (HstI.out.bv.mono (below_le h)) Hx.out Hy.out)
          have HS := Lib.hid (fun w' => shift_any (.pointer (some ⟨b, 0, none⟩)) (e : Int) w')
          have HT := Lib.hid (fun w' (h : Below wr.heap.size wr w') => step_any b xs ys _ _ _ _ w' (HstI.out.bv.mono (below_le h)) Hx.out Hy.out e (z + k - e) (Hrows.out.more _) (by omega) (by omega) (by omega))
          rw [Hz.out] at HE
          go_wp2_with fail
          refine (HE.out _ (Below.refl _ _)).mono ?_
          rintro e1 w4 ⟨rfl, hb4⟩
          go_wp2_with fail
          refine (HS.out _).mono ?_
          rintro e1 w5 ⟨rfl, hb5⟩
          have hb45 := hb4.trans (hb5.mono hb4.size)
          go_wp2_with fail
          refine (HT.out w5 hb45).mono ?_
          rintro e1 w6 ⟨r, rfl, hr, hb6⟩
          have hb46 := hb45.trans (hb6.mono hb45.size)
          have hrow6 := owns_below HrowI.out hb46
          have hst6 := HstI.out.below (E' := [some g]) hb46 (fun _ h => .inl h)
          have hc6 := hrow6.cellAt k (by omega)
          rw [mid_cell Hrl.out (by omega)] at hc6
          have hf6 := hrow6.frozenAt k
          have hgE : w.heap.size ≤ g := own_ge HrowI.out g rfl
          obtain ⟨hs1, hs2⟩ := hrow6.stored k (.int .i64 r)
          rw [mid_set Hrl.out (show m - k = (m - (k + 1)) + 1 by omega)] at hs1
          have hapt : (Value.slice (some ⟨gv, 0, none⟩) (e + 1) cap2).ownBlock ≠ some g := by
            rcases owns_apart hst6.ho hrow6 (fun e2 => types_ne e2.symm) with h | h
            · simp [Value.ownBlock] at h
            · exact h
          have Hst7 := Lib.hid (hst6.store hs2 hgE hapt (by simp))
          have Hs1 := Lib.hid hs1; have Hr := Lib.hid hr
          clear hrow6 hst6 hs1 hs2 hr
          go_wp2_with fail
          go_roundw
          case rel =>
            refine ⟨k + 1, row ++ [r], by omega, by simp, by rw [List.length_append, Hrl.out]; rfl, fun j hj => ?_, Hs1.out, Hst7.out⟩
            simp only [List.length_append, List.length_cons, List.length_nil] at hj
            have h1 := Hrl.out
            by_cases e2 : j < row.length
            · rw [List.getElem_append_left e2]; exact Hle.out j e2
            · obtain rfl : j = k := by omega
              rw [List.getElem_append_right (by omega)]
              simp only [h1, Nat.sub_self, List.getElem_cons_zero]
              rw [Hz.out]
              exact Hr.out
          case measure => simp [intOf]; omega
        · obtain rfl : k = m := by omega
          obtain ⟨hd0, hd1, hd2, hdb⟩ := HstI.out.bv.cells
          have hidx := own_idx' (P := Try.prog) (t := 35) (g := gv) (n := e + 1) (cap := cap2) (i := e) (by omega) Try.underlying35 sizeIntss
          have ho := HstI.out.ho
          rw [List.length_append, Hvl.out] at ho
          have hcg := ho.cellAt e (by simp)
          have hfg := ho.frozenAt e
          rw [List.getElem?_append_right (by rw [Hvl.out]; exact Nat.le_refl _), Hvl.out, Nat.sub_self] at hcg
          simp only [List.getElem?_cons_zero] at hcg
          have hfull := HrowI.out
          rw [Nat.sub_self, List.replicate_zero, List.append_nil] at hfull
          have hp := LS.put (vals := vals) (m := k) (row := row) (by rw [Hvl.out]; exact HstI.out) hfull
          rw [Hvl.out] at hp
          have Hp := Lib.hid hp
          have hrl2 : rows.length = e := by rw [← Hvl.out]; exact Hst.out.hd.1.symm
          have Hok := Lib.hid (Hrows.out.snoc hrl2 (by rw [Hrl.out, Hm.out]) Hle.out)
          have HL := Lib.hid (least_any b xs ys _ _ _ _ _ hp.bv Hx.out Hy.out e 0 (by rw [List.length_append, hrl2]; simp) (by omega) (by omega) (by omega))
          have Hrl2 := Lib.hid hrl2
          clear ho hfull hp hrl2 hk
          go_wp2_with fail
          refine HL.out.mono ?_
          rintro e1 w8 ⟨r, rfl, hr, hb8⟩
          have hls := Hok.out.least (by omega) hr
          have hr0 := hls.nonneg
          have hiff := hls.le Hx.out (x := 0) (y := 0) (Nat.zero_le _) (Nat.zero_le _) rfl
          rw [← HN.out] at hiff
          have Hp8 := Lib.hid (Hp.out.below (E' := []) hb8 (fun _ h => .inl h))
          clear hls hr
          by_cases hNe : N ≤ e
          · have hr1 : r = 0 := by have := hiff.2 hNe; omega
            subst hr1
            have heN : e = N := by omega
            clear hiff
            go_wp2_with fail
            go_ret
            refine ⟨rfl, _, _, Hp8.out.bv, ?_, ?_, Hp8.out.hg⟩
            · rw [← HN.out, ← heN]; exact Hok.out
            · rw [← HN.out, ← heN, List.length_append, Hrl2.out]; rfl
          · have hr1 : (r == 0) = false := by
              rw [beq_eq_false_iff_ne]
              intro e2
              exact hNe (hiff.1 (by omega))
            clear hiff
            go_wp2_with fail
            go_roundw
            case rel =>
              refine ⟨e + 1, _, _, _, by rw [← HN.out]; omega, by simp, by rw [List.length_append, Hvl.out]; rfl, Hok.out, Hp8.out⟩
            case measure => simp [intOf]; omega

end Go.Proofs.Ytlilamlolnkboaa
