/- myers.Run: right, add, trim, walked. -/
import Derived.Test.YtlilamlolnkboaaFlat
import Derived.Lib.SliceRun
import Derived.Test.YtlilamlolnkboaaCarry
namespace Go.Proofs.Ytlilamlolnkboaa
open Go.RowKit Go.WideShapes
set_option linter.unusedVariables false

def runC (r : Nat × Nat) : List Value := [.int .i64 r.1, .int .i64 r.2]
theorem runC_len (r : Nat × Nat) : (runC r).length = 2 := rfl
theorem sizeRun (w : World) : (Go.sizeOf (Try.prog.elem 37)).run Try.prog w = .ok 2 w := by kernel_rfl

theorem T_runs : SliceT Try.prog 37 42 (.agg #[.int .i64 0, .int .i64 0]) 2 16 := ⟨Try.underlying37, by kernel_rfl, rfl, by decide, by decide⟩

set_option maxRecDepth 100000 in
set_option maxHeartbeats 1000000 in
theorem right_any (k c : Nat) (w : World) (h1 : 1 ≤ k) (h2 : k ≤ 3) (h3 : 1 ≤ c) (h4 : c ≤ 1048576) :
    Calls Try.prog 18 #[.agg #[.int .i64 k, .int .i64 c]] w fun e w' => e = .returned (.bool true) ∧ Below w.heap.size w w' := by
  go_enter Try.func18, Try.ntmps18
  go_wp2
  go_ret
  exact ⟨ret_bool (by simp; omega), (Below.refl _ _).alloc (Nat.le_refl _) _⟩

/-- runs with one more -/
def addR (rs : List (Nat × Nat)) (k c : Nat) : List (Nat × Nat) :=
  if c = 0 then rs else if rs.getLast?.map (·.1) = some k then rs.dropLast ++ [(k, (rs.getLast?.map (·.2)).getD 0 + c)] else rs ++ [(k, c)]
theorem addR_zero (rs : List (Nat × Nat)) (k : Nat) : addR rs k 0 = rs := by simp [addR]
theorem addR_same (rs : List (Nat × Nat)) (k c' c : Nat) (h : c ≠ 0) : addR (rs ++ [(k, c')]) k c = rs ++ [(k, c' + c)] := by simp [addR, h]
theorem addR_other (rs : List (Nat × Nat)) (k k' c' c : Nat) (h : c ≠ 0) (hk : k' ≠ k) : addR (rs ++ [(k', c')]) k c = rs ++ [(k', c')] ++ [(k, c)] := by simp [addR, h, hk]
theorem addR_nil (k c : Nat) (h : c ≠ 0) : addR [] k c = [(k, c)] := by simp [addR, h]
/-- what runs stand for -/
def expand (rs : List (Nat × Nat)) : List Nat := rs.flatMap fun r => List.replicate r.2 r.1
theorem expand_append (a b : List (Nat × Nat)) : expand (a ++ b) = expand a ++ expand b := by simp [expand]
theorem expand_one (k c : Nat) : expand [(k, c)] = List.replicate c k := by simp [expand]
theorem expand_add (rs : List (Nat × Nat)) (k c : Nat) : expand (addR rs k c) = expand rs ++ List.replicate c k := by
  by_cases h : c = 0
  · subst h; simp [addR_zero]
  · rcases List.eq_nil_or_concat rs with rfl | ⟨r, x, rfl⟩
    · rw [addR_nil _ _ h, expand_one]; rfl
    · obtain ⟨k', c'⟩ := x
      rw [List.concat_eq_append]
      by_cases e : k' = k
      · subst e; rw [addR_same _ _ _ _ h, expand_append, expand_append, expand_one, expand_one, List.append_assoc, List.replicate_append_replicate]
      · rw [addR_other _ _ _ _ _ h e, expand_append, expand_one]
theorem addR_len (rs : List (Nat × Nat)) (k c : Nat) : (addR rs k c).length ≤ rs.length + 1 := by
  unfold addR
  split
  · omega
  · split
    · rw [List.length_append, List.length_dropLast]; simp
    · simp
/-- each is a run, and none is longer than m -/
def Runs (m : Nat) (rs : List (Nat × Nat)) : Prop := ∀ r ∈ rs, 1 ≤ r.1 ∧ r.1 ≤ 3 ∧ 1 ≤ r.2 ∧ r.2 ≤ m
theorem Runs.mono {m m' : Nat} {rs : List (Nat × Nat)} (h : Runs m rs) (hm : m ≤ m') : Runs m' rs := fun r hr => by
  have := h r hr; omega
theorem Runs.add {m : Nat} {rs : List (Nat × Nat)} (h : Runs m rs) {k c : Nat} (hk1 : 1 ≤ k) (hk2 : k ≤ 3) : Runs (m + c) (addR rs k c) := by
  by_cases hc : c = 0
  · subst hc; rw [addR_zero]; exact h
  · rcases List.eq_nil_or_concat rs with rfl | ⟨r, x, rfl⟩
    · rw [addR_nil _ _ hc]
      intro r hr
      obtain rfl : r = (k, c) := by simpa using hr
      simp; omega
    · obtain ⟨k', c'⟩ := x
      rw [List.concat_eq_append] at h ⊢
      have hx := h (k', c') (by simp)
      by_cases e : k' = k
      · subst e; rw [addR_same _ _ _ _ hc]
        intro y hy
        rcases List.mem_append.1 hy with hy | hy
        · have := h y (by simp [hy]); omega
        · obtain rfl : y = (k', c' + c) := by simpa using hy
          simp at hx ⊢; omega
      · rw [addR_other _ _ _ _ _ hc e]
        intro y hy
        rcases List.mem_append.1 hy with hy | hy
        · have := h y hy; omega
        · obtain rfl : y = (k, c) := by simpa using hy
          simp; omega

set_option maxRecDepth 100000 in
set_option maxHeartbeats 2000000 in
theorem add_any (base : Nat) (v : Value) (rs : List (Nat × Nat)) (k c : Nat) (w : World) (ho : w.ownsRow base 42 2 v rs.length (rs.flatMap runC)) (hb : base ≤ w.heap.size) (hl : rs.length < 1000000) (hr : Runs 10000000 rs) (hc : c < 10000000) :
    Calls Try.prog 19 #[v, .int .i64 k, .int .i64 c] w (OwnPost w base 42 2 v (addR rs k c).length ((addR rs k c).flatMap runC)) := by
  by_cases h0 : c = 0
  · subst h0
    rw [addR_zero]
    obtain ⟨a, cap, rfl, _⟩ := HRow.of_owns (E := []) ho (.inr (by simp))
    have Ho := Lib.hid ho; clear ho
    go_enter Try.func19, Try.ntmps19
    go_wp2
    go_ret
    exact ⟨_, rfl, Ho.out, World.grownBy.refl _ _, .inl rfl⟩
  · have hc0 : ((c : Int) == 0) = false := by simp; omega
    rcases List.eq_nil_or_concat rs with rfl | ⟨r, x, rfl⟩
    · rw [addR_nil _ _ h0]
      obtain ⟨a, cap, rfl, _⟩ := HRow.of_owns (E := []) ho (.inr (by simp))
      have Ho := Lib.hid ho; clear ho
      go_enter Try.func19, Try.ntmps19
      go_wp2_with (at_builtin; refine wpList_append_at T_runs rfl _ _ rfl #[_, _] rfl Ho.out rfl rfl ?_ ?_ ?_ ?_)
      · simp [Value.oneCell']
      · simp
      · exact hb
      · intro v' w' h1 h2 h3
        go_wp2
        go_ret
        exact ⟨_, rfl, h1, h2, h3.imp_right fun h => ⟨_, h, by omega⟩⟩
    · obtain ⟨k', c'⟩ := x
      rw [List.concat_eq_append] at ho hl hr ⊢
      have hx := hr (k', c') (by simp)
      simp only at hx
      simp only [List.length_append, List.length_cons, List.length_nil, Nat.zero_add] at ho hl
      generalize hm : r.length = m at *
      obtain ⟨g, cap, rfl⟩ : ∃ g cap, v = .slice (some ⟨g, 0, none⟩) (m + 1) cap := by
        rcases ho.2 with ⟨_, h⟩ | ⟨g, cap, cur, h, _⟩
        · omega
        · exact ⟨g, cap, h⟩
      have hidx := own_idx (P := Try.prog) (t := 37) (s := 2) (g := g) (n := m + 1) (cap := cap) (i := m) (by omega) Try.underlying37 sizeRun
      have hfl : (r ++ [(k', c')]).flatMap runC = r.flatMap runC ++ [.int .i64 (k' : Nat), .int .i64 (c' : Nat)] := by rw [List.flatMap_append]; rfl
      have hrl : (r.flatMap runC).length = m * 2 := by rw [flat_len runC_len, hm]
      rw [hfl] at ho
      have hc1 := ho.cellAt (m * 2) (by omega)
      have hc2 := ho.cellAt (m * 2 + 1) (by omega)
      have hf2 := ho.frozenAt (m * 2 + 1)
      rw [List.getElem?_append_right (by omega), hrl, Nat.sub_self] at hc1
      rw [List.getElem?_append_right (by omega), hrl, show m * 2 + 1 - m * 2 = 1 by omega] at hc2
      simp only [List.getElem?_cons_zero, List.getElem?_cons_succ] at hc1 hc2
      have Ho := Lib.hid ho; have Hfl := Lib.hid hfl; have Hrl := Lib.hid hrl; have Hm := Lib.hid hm
      clear ho hfl hrl hm hr
      by_cases hk : k' = k
      · subst hk
        rw [addR_same _ _ _ _ h0]
        go_enter Try.func19, Try.ntmps19
        go_wp2_with fail
        go_ret
        obtain ⟨h1, h2⟩ := Ho.out.stored (m * 2 + 1) (.int .i64 ((c' : Int) + c))
        refine ⟨_, rfl, ?_, h2, .inl rfl⟩
        rw [List.set_append_right _ _ (by rw [Hrl.out]; omega), Hrl.out, show m * 2 + 1 - m * 2 = 1 by omega] at h1
        rw [List.flatMap_append]
        simpa [Hm.out, runC] using h1
      · rw [addR_other _ _ _ _ _ h0 hk]
        have hkb : ((k' : Int) == (k : Int)) = false := by simp; omega
        go_enter Try.func19, Try.ntmps19
        go_wp2_with (at_builtin; refine wpList_append_at T_runs rfl _ _ rfl #[_, _] rfl Ho.out rfl rfl ?_ ?_ ?_ ?_)
        · simp [Value.oneCell']
        · omega
        · exact hb
        · intro v' w' h1 h2 h3
          go_wp2
          go_ret
          refine ⟨_, rfl, ?_, h2, h3.imp_right fun h => ⟨_, h, by omega⟩⟩
          rw [List.flatMap_append, Hfl.out]
          simpa [Hm.out, runC] using h1

/-- the runs that trim is handed: with the last keep, which isn't theirs -/
theorem addR_shape (rs : List (Nat × Nat)) (h : Runs 10000000 rs) : ∃ r k c, addR rs 1 1048576 = r ++ [(k, c + 1048576)] ∧ (c = 0 → rs = r) ∧ (c ≠ 0 → rs = r ++ [(k, c)]) ∧ c ≤ 10000000 ∧ r.length + 1 ≤ rs.length + 1 := by
  rcases List.eq_nil_or_concat rs with rfl | ⟨r, x, rfl⟩
  · exact ⟨[], 1, 0, by simp [addR], fun _ => rfl, fun h => absurd rfl h, by omega, by simp⟩
  · obtain ⟨k', c'⟩ := x
    rw [List.concat_eq_append] at h ⊢
    have hx := h (k', c') (by simp)
    simp only at hx
    by_cases e : k' = 1
    · subst e
      exact ⟨r, 1, c', addR_same _ _ _ _ (by omega), fun h => by omega, fun _ => rfl, by omega, by simp⟩
    · exact ⟨r ++ [(k', c')], 1, 0, addR_other _ _ _ _ _ (by omega) e, fun _ => rfl, fun h => absurd rfl h, by omega, by simp⟩

set_option maxRecDepth 100000 in
set_option maxHeartbeats 2000000 in
theorem trim_any (base : Nat) (v : Value) (rs : List (Nat × Nat)) (w : World) (ho : w.ownsRow base 42 2 v (addR rs 1 1048576).length ((addR rs 1 1048576).flatMap runC)) (hl : rs.length < 1000000) (hr : Runs 10000000 rs) :
    Calls Try.prog 20 #[v] w (OwnPost w base 42 2 v rs.length (rs.flatMap runC)) := by
  obtain ⟨r, k, c, hs, hc0, hc1, hc, hrl0⟩ := addR_shape rs hr
  rw [hs] at ho
  simp only [List.length_append, List.length_cons, List.length_nil, Nat.zero_add] at ho
  generalize hm : r.length = m at *
  obtain ⟨g, cap, rfl⟩ : ∃ g cap, v = .slice (some ⟨g, 0, none⟩) (m + 1) cap := by
    rcases ho.2 with ⟨_, h⟩ | ⟨g, cap, cur, h, _⟩
    · omega
    · exact ⟨g, cap, h⟩
  have hcap : m + 1 ≤ cap ∧ cap ≤ maxLen := by
    rcases ho.2 with ⟨h, _⟩ | ⟨g', cap', cur, h, _, _, h1, h2, _⟩
    · cases h
    · cases h; exact ⟨h1, h2⟩
  obtain ⟨hcap1, hcap2⟩ := hcap
  unfold maxLen at hcap2
  have hidx := own_idx (P := Try.prog) (t := 37) (s := 2) (g := g) (n := m + 1) (cap := cap) (i := m) (by omega) Try.underlying37 sizeRun
  have hfl : (r ++ [(k, c + 1048576)]).flatMap runC = r.flatMap runC ++ [.int .i64 (k : Nat), .int .i64 ((c + 1048576 : Nat) : Int)] := by rw [List.flatMap_append]; rfl
  have hrl : (r.flatMap runC).length = m * 2 := by rw [flat_len runC_len, hm]
  rw [hfl] at ho
  have hcell := ho.cellAt (m * 2 + 1) (by omega)
  have hf2 := ho.frozenAt (m * 2 + 1)
  rw [List.getElem?_append_right (by omega), hrl, show m * 2 + 1 - m * 2 = 1 by omega] at hcell
  simp only [List.getElem?_cons_zero, List.getElem?_cons_succ] at hcell
  obtain ⟨hst, hgr⟩ := ho.stored (m * 2 + 1) (.int .i64 (c : Nat))
  rw [List.set_append_right _ _ (by rw [hrl]; omega), hrl, show m * 2 + 1 - m * 2 = 1 by omega] at hst
  simp only [List.set_cons_succ, List.set_cons_zero] at hst
  have Hst := Lib.hid hst; have Hgr := Lib.hid hgr; have Hm := Lib.hid hm; have Hrl := Lib.hid hrl; have Hc0 := Lib.hid hc0; have Hc1 := Lib.hid hc1
  have hto := run_to (P := Try.prog) (t := 37) (s := 2) (a := some ⟨g, 0, none⟩) (n := m + 1) (cap := cap) (i := m) Try.underlying37 sizeRun (by omega) (fun h => by cases h)
  clear ho hst hgr hm hrl hc0 hc1 hfl hs hr
  have hsub : ((c + 1048576 : Nat) : Int) - 1048576 = c := by omega
  rw [show ((c + 1048576 : Nat) : Int) = (c : Int) + 1048576 by omega] at hcell
  by_cases h0 : c = 0
  · subst h0
    go_enter Try.func20, Try.ntmps20
    go_wp2_with fail
    go_ret
    refine ⟨_, rfl, ?_, Hgr.out, .inl rfl⟩
    obtain rfl := Hc0.out (by simp)
    rw [Hm.out]
    have := own_take Hst.out (k := m) (by omega)
    rw [List.take_append_of_le_length (by rw [Hrl.out]; omega), List.take_of_length_le (by rw [Hrl.out]; omega)] at this
    exact this
  · have hcb : ((c : Int) == 0) = false := by simp; omega
    go_enter Try.func20, Try.ntmps20
    go_wp2_with fail
    go_ret
    refine ⟨_, rfl, ?_, Hgr.out, .inl rfl⟩
    obtain rfl := Hc1.out h0
    rw [List.flatMap_append, List.length_append, Hm.out]
    simpa [runC] using Hst.out

theorem runs_one (rs : List (Nat × Nat)) : ∀ u ∈ rs.flatMap runC, u.oneCell' = true := by
  intro u hu
  obtain ⟨r, _, hr⟩ := List.mem_flatMap.1 hu
  simp only [runC, List.mem_cons, List.not_mem_nil, or_false] at hr
  rcases hr with rfl | rfl <;> rfl

set_option maxRecDepth 100000 in
set_option maxHeartbeats 2000000 in
theorem clone_any (v : Value) (rs : List (Nat × Nat)) (w : World) (hv : FlatV runC (frag w) v rs) (hl : rs.length < 1000000) :
    Calls Try.prog 17 #[v] w fun e w' => ∃ v', e = .returned v' ∧ w'.ownsRow w.heap.size 42 2 v' rs.length (rs.flatMap runC) ∧ Below w.heap.size w w' := by
  obtain ⟨a, cap, rfl, h1, h2, h0, hrow⟩ := hv
  have qT : ∀ (w : World) (a : Option Addr) (n c n' c' : Nat), (binOp .eql 37 (.slice a n c) (.slice none n' c')).run Try.prog w = .ok (.bool a.isNone) w := fun w a n c n' c' => Lib.run_eql_slice_nil w _ _ a n c n' c' Try.underlying37
  cases a with
  | none =>
    have hc := h0 rfl
    subst hc
    have : rs = [] := List.eq_nil_of_length_eq_zero (by omega)
    subst this
    go_enter Try.func17, Try.ntmps17
    go_wp2
    go_ret
    exact ⟨_, rfl, World.ownsRow_nil _ _ _ _, Below.refl _ _⟩
  | some p =>
    have Hrow := Lib.hid (hrow.mono (alloc_le w (.cells #[] 42)))
    have Hown := Lib.hid (World.ownsRow_lit (base := w.heap.size) (e := 42) (size := 2) w #[] 0 (Nat.le_refl _) (by decide) rfl)
    have Hb : Hid (Below w.heap.size w (w.alloc (.cells #[] 42))) := (Below.refl w.heap.size w).alloc (Nat.le_refl _) _
    clear hrow
    go_enter Try.func17, Try.ntmps17
    go_wp2_with (at_builtin; refine wpList_append_row T_runs (m := rs.length) (c := cap) (ad := p) rfl _ _ rfl rfl Hown.out rfl Hrow.out (flat_len runC_len rs) (runs_one rs) (by omega) (by simp) ?_)
    · intro v' w' h3 h4 h5 _
      go_wp2
      go_ret
      refine ⟨_, rfl, by simpa using h3, Below.of_grown Hb.out Hown.out h4 (by simp) (Nat.le_refl _)⟩

end Go.Proofs.Ytlilamlolnkboaa
