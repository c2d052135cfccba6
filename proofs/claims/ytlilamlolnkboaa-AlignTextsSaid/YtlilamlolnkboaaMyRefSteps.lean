/- redlineref19.Steps, walked. -/
import Derived.Test.YtlilamlolnkboaaMyTable
namespace Go.Proofs.Ytlilamlolnkboaa
open Go.RowKit Go.WideShapes
open My (D S steps)
set_option linter.unusedVariables false

def nats (l : List Nat) : List Int := l.map fun (k : Nat) => (k : Int)
theorem nats_snoc (l : List Nat) (k : Nat) : intVals (nats (l ++ [k])) = intVals (nats l) ++ [.int .i64 (k : Nat)] := by simp [nats, intVals]
theorem nats_len (l : List Nat) : (nats l).length = l.length := by simp [nats]

def RSRel (w2 : World) (xs ys : List Int) (out x y : Value) (wr : World) : Prop :=
  ∃ (i j : Nat) (ks : List Nat), i ≤ xs.length ∧ j ≤ ys.length ∧ x = .int .i64 i ∧ y = .int .i64 j ∧ wr.ownsRow w2.heap.size 3 1 out ks.length (intVals (nats ks)) ∧ ks ++ S xs ys i j = steps xs ys ∧ Below w2.heap.size w2 wr
def StepsPost (w : World) (xs ys : List Int) (e : Ending) (w' : World) : Prop :=
  ∃ v, e = .returned v ∧ ListV IntR (frag w') v (nats (steps xs ys)) ∧ Below w.heap.size w w'

theorem RSRel.step {w2 wx w4 : World} {xs ys : List Int} {out v' : Value} {i j i' j' k : Nat} {ks : List Nat} (hown : wx.ownsRow w2.heap.size 3 1 out ks.length (intVals (nats ks))) (hexp : ks ++ S xs ys i j = steps xs ys) (hb2 : Below w2.heap.size w2 wx)
    (h1 : w4.ownsRow w2.heap.size 3 1 v' (ks.length + 1) (intVals (nats ks) ++ [.int .i64 (k : Nat)])) (h2 : wx.grownBy w4 out.ownBlock) (hS : S xs ys i j = k :: S xs ys i' j') (hi : i' ≤ xs.length) (hj : j' ≤ ys.length) :
    RSRel w2 xs ys v' (.int .i64 (i' : Nat)) (.int .i64 (j' : Nat)) w4 := by
  refine ⟨i', j', ks ++ [k], hi, hj, rfl, rfl, ?_, by rw [← hexp, hS]; simp, hb2.grown h2 hb2.size (own_ge hown)⟩
  rw [nats_snoc, List.length_append]
  exact h1

set_option maxRecDepth 100000 in
set_option maxHeartbeats 8000000 in
theorem refsteps_any (xs ys : List Int) (v u : Value) (w : World) (hv : ListV IntR (frag w) v xs) (hu : ListV IntR (frag w) u ys) (hx : xs.length < 1000000) (hy : ys.length < 1000000) (hD : xs.length + ys.length ≤ 400) :
    Calls Try.prog 16 #[v, u] w (StepsPost w xs ys) := by
  have HF := Lib.hid (table_any xs ys v u w hv hu hx hy)
  obtain ⟨a1, c1, rfl, h1, h2, _⟩ := hv.len
  obtain ⟨a2, c2, rfl, h3, h4, _⟩ := hu.len
  unfold maxLen at h2 h4
  have HX := Lib.hid hv; have HY := Lib.hid hu
  clear hv hu
  have HD0 := My.D_le xs ys
  have HK := Lib.hid (My.steps_kinds _ xs ys (Nat.le_refl _))
  generalize hn : xs.length = n at *
  generalize hm : ys.length = m at *
  have Hn := Lib.hid hn; have Hm := Lib.hid hm
  clear hn hm
  go_enter Try.func16, Try.ntmps16
  go_wp2_with fail
  refine HF.out.mono ?_
  rintro e w1 ⟨tv, rfl, htv, hb1⟩
  obtain ⟨at', ct, rfl, htc, htm, _⟩ := htv.len
  have htl : (TB xs ys 0).length = n + 1 := by rw [TB_len, Hn.out]; rfl
  rw [htl] at htv htc ⊢
  have hrowAt : Hid (∀ x, x ≤ n → ∃ b o ar cr, b < w1.heap.size ∧ (∀ w', (Instr.indexAt 35 (.slice at' (n + 1) ct) (.int .i64 (x : Nat))).run Try.prog w' = .ok (.pointer (some ⟨b, o, none⟩)) w') ∧ w1.cell? ⟨b, o, none⟩ = some (.slice ar (m + 1) cr) ∧
      ∀ y, y ≤ m → ∃ b' o', b' < w1.heap.size ∧ (∀ w', (Instr.indexAt 40 (.slice ar (m + 1) cr) (.int .i64 (y : Nat))).run Try.prog w' = .ok (.pointer (some ⟨b', o', none⟩)) w') ∧ w1.cell? ⟨b', o', none⟩ = some (.int .i64 (D xs ys x y : Nat))) := by
    intro x hxn
    obtain ⟨b0, o0, u0, hb0, hidx, hcell, hu0⟩ := ListV.at htv (i := x) (by rw [htl]; omega) Try.underlying35 sizeIntss
    rw [TB_get, Nat.zero_add] at hu0
    obtain ⟨ar, cr, rfl, _⟩ := hu0.len
    have hl : (Drow xs ys x).length = m + 1 := by rw [Drow_len, Hm.out]
    rw [hl] at hcell hu0
    refine ⟨b0, o0, ar, cr, hb0, hidx, hcell, fun y hym => ?_⟩
    obtain ⟨b1, o1, u1, hb1, hidx1, hcell1, hu1⟩ := ListV.at hu0 (i := y) (by rw [hl]; omega) Try.underlying40 sizeInt
    unfold IntR at hu1
    rw [Drow_get] at hu1
    subst hu1
    exact ⟨b1, o1, hb1, hidx1, hcell1⟩
  obtain ⟨b0, o0, ar, cr, hb0, hidx0, hcell0, hrow0⟩ := hrowAt.out 0 (Nat.zero_le _)
  obtain ⟨b00, o00, hb00, hidx00, hcell00⟩ := hrow0 0 (Nat.zero_le _)
  rw [show ((0 : Nat) : Int) = 0 from rfl] at hidx0 hidx00
  have hb1s := hb1.size
  have hc0 : (w1.alloc (.cells #[] 3)).cell? ⟨b0, o0, none⟩ = some (.slice ar (m + 1) cr) := by
    exact (Below.cell ((Below.refl w1.heap.size w1).alloc (Nat.le_refl _) (.cells #[] 3)) (p := ⟨b0, o0, none⟩) hb0).trans hcell0
  have hc00 : (w1.alloc (.cells #[] 3)).cell? ⟨b00, o00, none⟩ = some (.int .i64 (D xs ys 0 0 : Nat)) := by
    exact (Below.cell ((Below.refl w1.heap.size w1).alloc (Nat.le_refl _) (.cells #[] 3)) (p := ⟨b00, o00, none⟩) hb00).trans hcell00
  obtain ⟨d00, hd00⟩ : ∃ d, d = D xs ys 0 0 := ⟨_, rfl⟩
  rw [← hd00] at hc00
  have hd4 : d00 ≤ 400 := by omega
  have Hb1 := Lib.hid hb1
  clear hcell0 hcell00 hrow0 htv hd00 HD0 hb1
  go_wp2_with fail
  go_loopw [6, 7, 8] (RSRel w1 xs ys) (fun _ x y _ => (n - (intOf x).toNat) + (m - (intOf y).toNat))
  case atStart =>
    have h5 := World.ownsRow_lit (base := w1.heap.size) (e := 3) (size := 1) w1 #[] 0 (Nat.le_refl _) (by decide) rfl
    exact ⟨0, 0, [], Nat.zero_le _, Nat.zero_le _, rfl, rfl, h5, by simp [My.S_start], (Below.refl _ _).alloc (Nat.le_refl _) _⟩
  case round =>
    obtain ⟨i, j, ks, hi, hj, rfl, rfl, hown, hexp, hbel⟩ := hrel
    rw [Hn.out] at hi
    rw [Hm.out] at hj
    have hsz := hbel.size
    have hkl : ks.length ≤ 400 := by
      have := congrArg List.length hexp
      rw [List.length_append] at this
      have := HK.out.2
      omega
    have Hown := Lib.hid hown; have Hexp := Lib.hid hexp
    have hbw := Hb1.out.trans (hbel.mono hb1s)
    clear hown hexp
    have Hbq : Hid (∀ q, Below wr.heap.size wr (wr.drewN q)) := fun q => Below.drewN (Below.refl _ _) q
    by_cases hin : i < n
    · have hix : i < xs.length := by rw [Hn.out]; exact hin
      by_cases hjm : j < m
      · have hjy : j < ys.length := by rw [Hm.out]; exact hjm
        obtain ⟨b1, o1, u1, hb1', hidx1, hcell1', hu1⟩ := ListV.at (n := n) (cap := c1) (a := a1) HX.out (i := i) hix Try.underlying40 sizeInt
        obtain ⟨b2, o2, u2, hb2', hidx2, hcell2', hu2⟩ := ListV.at (n := m) (cap := c2) (a := a2) HY.out (i := j) hjy Try.underlying40 sizeInt
        unfold IntR at hu1 hu2
        subst hu1 hu2
        have hcell1 := (hbw.cell (p := ⟨b1, o1, none⟩) hb1').trans hcell1'
        have hcell2 := (hbw.cell (p := ⟨b2, o2, none⟩) hb2').trans hcell2'
        clear hcell1' hcell2'
        by_cases he : xs[i] = ys[j]
        · have hbq : (xs[i] == ys[j]) = true := by simpa using he
          have HS := Lib.hid (My.S_keep hix hjy he)
          clear he
          go_wp2
          go_quiet (fail)
          go_wp2_with (at_builtin; refine wpList_append_at T_ints rfl _ _ rfl #[_] rfl (owns_drewN Hown.out _) rfl rfl (by simp [Value.oneCell']) (by omega) hsz ?_)
          intro v4 w4 h5 h6 _
          have Hrel := Lib.hid (RSRel.step (i' := i + 1) (j' := j + 1) (k := 1) (owns_drewN Hown.out _) Hexp.out (hbel.trans ((Hbq.out _).mono hsz)) h5 h6 HS.out (by omega) (by omega))
          clear h5 h6
          go_wp2_with fail
          go_roundw
          case rel => exact Hrel.out
          case measure => simp [intOf]; omega
        · have hbq : (xs[i] == ys[j]) = false := by simpa using he
          have hjmq : ((j : Int) == (m : Int)) = false := by simp; omega
          obtain ⟨b3, o3, ar3, cr3, hb3, hidx3, hcell3', hrow3⟩ := hrowAt.out (i + 1) (by omega)
          obtain ⟨b4, o4, hb4, hidx4, hcell4'⟩ := hrow3 j hj
          obtain ⟨b5, o5, ar5, cr5, hb5, hidx5, hcell5', hrow5⟩ := hrowAt.out i hi
          obtain ⟨b6, o6, hb6, hidx6, hcell6'⟩ := hrow5 (j + 1) (by omega)
          have hcell3 := (hbel.cell (p := ⟨b3, o3, none⟩) hb3).trans hcell3'
          have hcell4 := (hbel.cell (p := ⟨b4, o4, none⟩) hb4).trans hcell4'
          have hcell5 := (hbel.cell (p := ⟨b5, o5, none⟩) hb5).trans hcell5'
          have hcell6 := (hbel.cell (p := ⟨b6, o6, none⟩) hb6).trans hcell6'
          rw [show ((i + 1 : Nat) : Int) = (i : Int) + 1 by omega] at hidx3
          rw [show ((j + 1 : Nat) : Int) = (j : Int) + 1 by omega] at hidx6
          clear hcell3' hcell4' hcell5' hcell6' hrow3 hrow5
          by_cases hle : D xs ys (i + 1) j ≤ D xs ys i (j + 1)
          · have HS := Lib.hid (My.S_drop hix hjy he hle)
            clear he
            generalize D xs ys (i + 1) j = e1 at *
            generalize D xs ys i (j + 1) = e2 at *
            go_wp2
            go_quiet (fail)
            go_wp2
            go_quiet (fail)
            go_wp2_with (at_builtin; refine wpList_append_at T_ints rfl _ _ rfl #[_] rfl (owns_drewN Hown.out _) rfl rfl (by simp [Value.oneCell']) (by omega) hsz ?_)
            intro v4 w4 h5 h6 _
            have Hrel := Lib.hid (RSRel.step (i' := i + 1) (j' := j) (k := 2) (owns_drewN Hown.out _) Hexp.out (hbel.trans ((Hbq.out _).mono hsz)) h5 h6 HS.out (by omega) (by omega))
            clear h5 h6
            go_wp2_with fail
            go_roundw
            case rel => exact Hrel.out
            case measure => simp [intOf]; omega
          · have HS := Lib.hid (My.S_put hix hjy he hle)
            clear he
            generalize D xs ys (i + 1) j = e1 at *
            generalize D xs ys i (j + 1) = e2 at *
            go_wp2
            go_quiet (fail)
            go_wp2
            go_quiet (fail)
            go_wp2_with (at_builtin; refine wpList_append_at T_ints rfl _ _ rfl #[_] rfl (owns_drewN Hown.out _) rfl rfl (by simp [Value.oneCell']) (by omega) hsz ?_)
            intro v4 w4 h5 h6 _
            have Hrel := Lib.hid (RSRel.step (i' := i) (j' := j + 1) (k := 3) (owns_drewN Hown.out _) Hexp.out (hbel.trans ((Hbq.out _).mono hsz)) h5 h6 HS.out (by omega) (by omega))
            clear h5 h6
            go_wp2_with fail
            go_roundw
            case rel => exact Hrel.out
            case measure => simp [intOf]; omega
      · obtain rfl : j = m := by omega
        have hjmq : ((j : Int) == (j : Int)) = true := by simp
        have HS : Hid (S xs ys i j = 2 :: S xs ys (i + 1) j) := by
          show _ = _
          have := Hm.out; subst this; exact My.S_drop_end hix
        go_wp2
        go_quiet (fail)
        go_wp2
        go_quiet (fail)
        go_wp2_with (at_builtin; refine wpList_append_at T_ints rfl _ _ rfl #[_] rfl (owns_drewN Hown.out _) rfl rfl (by simp [Value.oneCell']) (by omega) hsz ?_)
        intro v4 w4 h5 h6 _
        have Hrel := Lib.hid (RSRel.step (i' := i + 1) (j' := j) (k := 2) (owns_drewN Hown.out _) Hexp.out (hbel.trans ((Hbq.out _).mono hsz)) h5 h6 HS.out (by omega) (by rw [Hm.out]; exact Nat.le_refl _))
        clear h5 h6
        go_wp2_with fail
        go_roundw
        case rel => exact Hrel.out
        case measure => simp [intOf]; omega
    · obtain rfl : i = n := by omega
      by_cases hjm : j < m
      · have hjy : j < ys.length := by rw [Hm.out]; exact hjm
        have HS : Hid (S xs ys i j = 3 :: S xs ys i (j + 1)) := by
          show _ = _
          have := Hn.out; subst this; exact My.S_put_end hjy
        go_wp2
        go_quiet (fail)
        go_wp2
        go_quiet (fail)
        go_wp2_with (at_builtin; refine wpList_append_at T_ints rfl _ _ rfl #[_] rfl (owns_drewN Hown.out _) rfl rfl (by simp [Value.oneCell']) (by omega) hsz ?_)
        intro v4 w4 h5 h6 _
        have Hrel := Lib.hid (RSRel.step (i' := i) (j' := j + 1) (k := 3) (owns_drewN Hown.out _) Hexp.out (hbel.trans ((Hbq.out _).mono hsz)) h5 h6 HS.out (by rw [Hn.out]; exact Nat.le_refl _) (by omega))
        clear h5 h6
        go_wp2_with fail
        go_roundw
        case rel => exact Hrel.out
        case measure => simp [intOf]; omega
      · obtain rfl : j = m := by omega
        go_wp2_with fail
        go_ret
        have hS : S xs ys i j = [] := by
          have h5 := Hn.out; have h6 := Hm.out
          subst h5 h6
          exact My.S_done xs ys
        have he := Hexp.out
        rw [hS, List.append_nil] at he
        have ho := Hown.out
        rw [← nats_len] at ho
        have hF := ListV.of_owns (R := IntR) (E := []) ho (.inr (by simp)) (fun i hv hx => by simp [IntR, intVals])
        rw [fragE_nil] at hF
        exact ⟨_, rfl, by rw [← he]; exact hF, hbw⟩

end Go.Proofs.Ytlilamlolnkboaa
