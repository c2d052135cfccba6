/- redlineref19.Runs, walked. -/
import Derived.Test.YtlilamlolnkboaaMyRefSteps
import Derived.Test.YtlilamlolnkboaaMyTidyPlain
namespace Go.Proofs.Ytlilamlolnkboaa
open Go.RowKit Go.WideShapes
set_option linter.unusedVariables false

/-- steps as runs -/
def compress (l : List Nat) : List (Nat × Nat) := l.foldl (fun rs k => addR rs k 1) []
theorem compress_snoc (l : List Nat) (k : Nat) : compress (l ++ [k]) = addR (compress l) k 1 := by simp [compress]
theorem compress_nil : compress [] = [] := rfl
theorem expand_compress (l : List Nat) : expand (compress l) = l := by
  rcases List.eq_nil_or_concat l with rfl | ⟨r, k, rfl⟩
  · rfl
  · rw [List.concat_eq_append, compress_snoc, expand_add, expand_compress r]; rfl
termination_by l.length
theorem compress_last (l : List Nat) (k : Nat) : ∃ r c, compress (l ++ [k]) = r ++ [(k, c)] ∧ 1 ≤ c ∧ c ≤ l.length + 1 ∧ r.length ≤ l.length := by
  rcases List.eq_nil_or_concat l with rfl | ⟨r, x, rfl⟩
  · exact ⟨[], 1, by simp [compress, addR], by omega, by simp, by simp⟩
  · rw [List.concat_eq_append]
    obtain ⟨r', c, h, hc1, hc2, hr⟩ := compress_last r x
    by_cases e : x = k
    · subst e
      refine ⟨r', c + 1, by rw [compress_snoc, h, addR_same _ _ _ _ (by omega)], by omega, by simp; omega, by simp; omega⟩
    · refine ⟨r' ++ [(x, c)], 1, by rw [compress_snoc, h, addR_other _ _ _ _ _ (by omega) e], by omega, by simp, by simp; omega⟩
termination_by l.length
theorem compress_good {l : List Nat} (h : ∀ k ∈ l, 1 ≤ k ∧ k ≤ 3) : Good (compress l) := by
  rcases List.eq_nil_or_concat l with rfl | ⟨r, k, rfl⟩
  · intro x hx; simp [compress] at hx
  · rw [List.concat_eq_append] at h ⊢
    rw [compress_snoc]
    have h1 := h k (by simp)
    exact (compress_good (l := r) (fun x hx => h x (by simp [hx]))).add h1.1 h1.2
termination_by l.length

theorem sizeRun' (w : World) : (Go.sizeOf (Try.prog.elem 45)).run Try.prog w = .ok 2 w := by kernel_rfl
theorem T_runs' : SliceT Try.prog 45 49 (.agg #[.int .i64 0, .int .i64 0]) 2 16 := ⟨Try.underlying45, by kernel_rfl, rfl, by decide, by decide⟩

def RRRel (w : World) (l : List Nat) (out i : Value) (wr : World) : Prop :=
  ∃ k : Nat, k ≤ l.length ∧ i = .int .i64 k ∧ wr.ownsRow w.heap.size 49 2 out (compress (l.take k)).length ((compress (l.take k)).flatMap runC) ∧ Below w.heap.size w wr
def RunsPost (w : World) (l : List Nat) (e : Ending) (w' : World) : Prop :=
  ∃ v, e = .returned v ∧ FlatV runC (frag w') v (compress l) ∧ Below w.heap.size w w'

set_option maxRecDepth 100000 in
set_option maxHeartbeats 8000000 in
theorem refruns_any (l : List Nat) (v : Value) (w : World) (hv : ListV IntR (frag w) v (nats l)) (hl : l.length < 100000) :
    Calls Try.prog 15 #[v] w (RunsPost w l) := by
  obtain ⟨a1, c1, rfl, h1, h2, _⟩ := hv.len
  unfold maxLen at h2
  have HX := Lib.hid hv
  clear hv
  rw [nats_len] at HX h1 ⊢
  generalize hn : l.length = n at *
  have Hn := Lib.hid hn
  clear hn
  go_enter Try.func15, Try.ntmps15
  go_wp2_with fail
  go_loopw [3, 9] (RRRel w l) (fun _ i _ => n - (intOf i).toNat)
  case atStart =>
    have h5 := World.ownsRow_lit (base := w.heap.size) (e := 49) (size := 2) w #[] 0 (Nat.le_refl _) (by decide) rfl
    exact ⟨0, Nat.zero_le _, rfl, h5, (Below.refl _ _).alloc (Nat.le_refl _) _⟩
  case round =>
    obtain ⟨k, hk, rfl, hown, hbel⟩ := hrel
    rw [Hn.out] at hk
    have hsz := hbel.size
    have hown0 := Lib.hid hown
    by_cases hlt : k < n
    · have hks : k < l.length := by rw [Hn.out]; exact hlt
      obtain ⟨b0, o0, u0, hb0, hidx0, hcell0', hu0⟩ := ListV.at (n := n) (cap := c1) (a := a1) HX.out (i := k) (by rw [nats_len]; exact hks) Try.underlying40 sizeInt
      unfold IntR at hu0
      subst hu0
      have hcell0 : wr.cell? ⟨b0, o0, none⟩ = some (.int .i64 (l[k] : Nat)) := by
        rw [(hbel.cell (p := ⟨b0, o0, none⟩) hb0).trans hcell0']; simp [nats]
      clear hcell0'
      have Hsn : Hid (compress (l.take (k + 1)) = addR (compress (l.take k)) l[k] 1) := by
        show _ = _
        rw [List.take_succ_eq_append_getElem hks, compress_snoc]
      cases k with
      | zero =>
        simp only [List.take_zero, compress_nil, List.length_nil, List.flatMap_nil] at hown Hsn
        rw [addR_nil _ _ (by omega)] at Hsn
        have Hown := Lib.hid hown
        generalize l[0] = x at *
        have hidx00 := hidx0
        rw [show ((0 : Nat) : Int) = 0 from rfl] at hidx00
        clear hown hown0
        go_wp2_with (at_builtin; refine wpList_append_at T_runs' rfl _ _ rfl #[_, _] rfl Hown.out rfl rfl (by simp [Value.oneCell']) (by omega) hsz ?_)
        intro v4 w4 h5 h6 _
        have Hrel : Hid (RRRel w l v4 (.int .i64 1) w4) := ⟨1, by rw [Hn.out]; omega, rfl, by rw [Hsn.out]; exact h5, Below.of_grown hbel Hown.out h6 hsz (Nat.le_refl _)⟩
        clear h5 h6
        go_wp2_with fail
        go_roundw
        case rel => exact Hrel.out
        case measure => simp [intOf]; omega
      | succ j =>
        have hjs : j < l.length := by omega
        rw [show ((j + 1 : Nat) : Int) = (j : Int) + 1 by omega] at hidx0
        obtain ⟨b1, o1, u1, hb1, hidx1, hcell1', hu1⟩ := ListV.at (n := n) (cap := c1) (a := a1) HX.out (i := j) (by rw [nats_len]; exact hjs) Try.underlying40 sizeInt
        unfold IntR at hu1
        subst hu1
        have hcell1 : wr.cell? ⟨b1, o1, none⟩ = some (.int .i64 (l[j] : Nat)) := by
          rw [(hbel.cell (p := ⟨b1, o1, none⟩) hb1).trans hcell1']; simp [nats]
        clear hcell1'
        obtain ⟨r, c, hrc, hc1, hc2, hrl⟩ := compress_last (l.take j) l[j]
        rw [← List.take_succ_eq_append_getElem hjs] at hrc
        rw [hrc] at hown Hsn
        rw [List.length_take] at hc2 hrl
        generalize l[j] = x at *
        generalize l[j + 1] = y at *
        simp only [List.length_append, List.length_cons, List.length_nil, Nat.zero_add] at hown
        generalize hm : r.length = m at *
        obtain ⟨g, cap, rfl⟩ : ∃ g cap, u3 = .slice (some ⟨g, 0, none⟩) (m + 1) cap := by
          rcases hown.2 with ⟨_, h⟩ | ⟨g, cap, cur, h, _⟩
          · omega
          · exact ⟨g, cap, h⟩
        have hidx := own_idx (P := Try.prog) (t := 45) (s := 2) (g := g) (n := m + 1) (cap := cap) (i := m) (by omega) Try.underlying45 sizeRun'
        have hfl : (r ++ [(x, c)]).flatMap runC = r.flatMap runC ++ [.int .i64 (x : Nat), .int .i64 (c : Nat)] := by rw [List.flatMap_append]; rfl
        have hrl2 : (r.flatMap runC).length = m * 2 := by rw [flat_len runC_len, hm]
        rw [hfl] at hown
        have hcc := hown.cellAt (m * 2 + 1) (by omega)
        have hfc := hown.frozenAt (m * 2 + 1)
        rw [List.getElem?_append_right (by omega), hrl2, show m * 2 + 1 - m * 2 = 1 by omega] at hcc
        simp only [List.getElem?_cons_zero, List.getElem?_cons_succ] at hcc
        have Hown := Lib.hid hown; have Hm := Lib.hid hm; have Hrl2 := Lib.hid hrl2; have Hfl := Lib.hid hfl
        clear hown hm hrl2 hfl hown0 hrc
        by_cases he : x = y
        · subst he
          rw [addR_same _ _ _ _ (by omega)] at Hsn
          obtain ⟨h5, h6⟩ := Hown.out.stored (m * 2 + 1) (.int .i64 ((c : Int) + 1))
          rw [List.set_append_right _ _ (by rw [Hrl2.out]; omega), Hrl2.out, show m * 2 + 1 - m * 2 = 1 by omega] at h5
          have Hrel : Hid (RRRel w l (.slice (some ⟨g, 0, none⟩) (m + 1) cap) (.int .i64 (((j + 1 : Nat) : Int) + 1)) (wr.setCell ⟨g, m * 2 + 1, none⟩ (.int .i64 ((c : Int) + 1)))) := by
            refine ⟨j + 1 + 1, by omega, by simp, ?_, Below.of_grown hbel Hown.out h6 hsz (Nat.le_refl _)⟩
            rw [Hsn.out, List.flatMap_append]
            simpa [Hm.out, runC] using h5
          clear h5 h6
          go_wp2_with fail
          go_roundw
          case rel => exact Hrel.out
          case measure => simp [intOf]; omega
        · have hq : ((x : Int) == (y : Int)) = false := by simp; omega
          rw [addR_other _ _ _ _ _ (by omega) he] at Hsn
          clear he
          go_wp2_with (at_builtin; refine wpList_append_at T_runs' rfl _ _ rfl #[_, _] rfl Hown.out rfl rfl (by simp [Value.oneCell']) (by omega) hsz ?_)
          intro v4 w4 h5 h6 _
          have Hrel : Hid (RRRel w l v4 (.int .i64 (((j + 1 : Nat) : Int) + 1)) w4) := by
            refine ⟨j + 1 + 1, by omega, by simp, ?_, Below.of_grown hbel Hown.out h6 hsz (Nat.le_refl _)⟩
            rw [Hsn.out, List.flatMap_append, Hfl.out]
            simpa [Hm.out, runC] using h5
          clear h5 h6
          go_wp2_with fail
          go_roundw
          case rel => exact Hrel.out
          case measure => simp [intOf]; omega
    · obtain rfl : k = n := by omega
      rw [← Hn.out, List.take_length] at hown
      have Hown := Lib.hid hown
      clear hown hown0 hk
      go_wp2_with fail
      go_ret
      have hF := FlatV.of_owns (E := []) Hown.out rfl (.inr (by simp))
      rw [fragE_nil] at hF
      exact ⟨_, rfl, hF, hbel⟩

end Go.Proofs.Ytlilamlolnkboaa
