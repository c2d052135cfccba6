/- myers.Align, walked: its runs are the steps. -/
import Derived.Test.YtlilamlolnkboaaMyFrom
import Derived.Test.YtlilamlolnkboaaMyTidyPlain
namespace Go.Proofs.Ytlilamlolnkboaa
open Go.RowKit Go.WideShapes
open My (D S U steps)
set_option linter.unusedVariables false

def ARel (w : World) (xs ys : List Int) (b : Nat) (v u vr : Value) (rows : List (List Int)) (N : Nat) (out x y : Value) (wr : World) : Prop :=
  ∃ (i j : Nat) (rs : List (Nat × Nat)), i ≤ xs.length ∧ j ≤ ys.length ∧ x = .int .i64 i ∧ y = .int .i64 j ∧ wr.ownsRow w.heap.size 42 2 out rs.length (rs.flatMap runC) ∧ Good rs ∧ expand rs ++ S xs ys i j = steps xs ys ∧ D xs ys i j ≤ N ∧
    BV (fragE wr [out.ownBlock]) b xs ys rows v u vr ∧ Below w.heap.size w wr
def AlignPost (w : World) (xs ys : List Int) (e : Ending) (w' : World) : Prop :=
  ∃ v s, e = .returned v ∧ FlatV runC (frag w') v s ∧ Good s ∧ expand s = steps xs ys ∧ Below w.heap.size w w'

theorem edits_cmp {xs ys : List Int} {N i j : Nat} (hN : N < 100000) (h : D xs ys (i + 1) j ≤ N ∨ D xs ys i (j + 1) ≤ N) : editsR xs ys N (i + 1) j ≤ editsR xs ys N i (j + 1) ↔ D xs ys (i + 1) j ≤ D xs ys i (j + 1) := by
  unfold editsR U
  split <;> split <;> omega

theorem ARel.step {w wx w4 : World} {xs ys : List Int} {b : Nat} {v u vr out v' : Value} {rows : List (List Int)} {N i j i' j' k : Nat} {rs : List (Nat × Nat)} (hown : wx.ownsRow w.heap.size 42 2 out rs.length (rs.flatMap runC)) (hgood : Good rs)
    (hexp : expand rs ++ S xs ys i j = steps xs ys) (hbv : BV (fragE wx [out.ownBlock]) b xs ys rows v u vr) (hbel : Below w.heap.size w wx) (h1 : w4.ownsRow w.heap.size 42 2 v' (addR rs k 1).length ((addR rs k 1).flatMap runC)) (h2 : wx.grownBy w4 out.ownBlock)
    (h3 : v'.ownBlock = out.ownBlock ∨ ∃ g, v'.ownBlock = some g ∧ wx.heap.size ≤ g) (hk1 : 1 ≤ k) (hk2 : k ≤ 3) (hS : S xs ys i j = k :: S xs ys i' j') (hi : i' ≤ xs.length) (hj : j' ≤ ys.length) (hD : D xs ys i' j' ≤ N) :
    ARel w xs ys b v u vr rows N v' (.int .i64 (i' : Nat)) (.int .i64 (j' : Nat)) w4 := by
  obtain ⟨hb, hf⟩ := own_carry hbel hown h2 h3
  refine ⟨i', j', _, hi, hj, rfl, rfl, h1, hgood.add hk1 hk2, ?_, hD, hbv.mono hf, hb⟩
  rw [expand_add, ← hexp, hS]
  simp

set_option maxRecDepth 100000 in
set_option maxHeartbeats 8000000 in
theorem align_any (xs ys : List Int) (v u : Value) (w : World) (hv : ListV IntR (frag w) v xs) (hu : ListV IntR (frag w) u ys) (hx : xs.length < 1000000) (hy : ys.length < 1000000) (hD : xs.length + ys.length ≤ 400) :
    Calls Try.prog 12 #[v, u] w (AlignPost w xs ys) := by
  have HF := Lib.hid (from_any xs ys v u w hv hu hx hy hD)
  obtain ⟨a1, c1, rfl, h1, h2, _⟩ := hv.len
  obtain ⟨a2, c2, rfl, h3, h4, _⟩ := hu.len
  unfold maxLen at h2 h4
  clear hv hu
  have HD := Lib.hid (My.D_le xs ys)
  have HK := Lib.hid (My.steps_kinds _ xs ys (Nat.le_refl _))
  generalize hn : xs.length = n at *
  generalize hm : ys.length = m at *
  have Hn := Lib.hid hn; have Hm := Lib.hid hm
  clear hn hm
  go_enter Try.func12, Try.ntmps12
  go_wp2_with fail
  refine HF.out.mono ?_
  rintro e w1 ⟨b, vr, rows, rfl, hbv, hok, hrl, hb1⟩
  obtain ⟨N, hN⟩ : ∃ N, N = D xs ys 0 0 := ⟨_, rfl⟩
  rw [← hN] at hok hrl
  have hNb : N ≤ 400 := by have := HD.out; omega
  have HN := Lib.hid hN; have Hok := Lib.hid hok; have Hrl := Lib.hid hrl; have Hbv := Lib.hid hbv; have Hb1 := Lib.hid hb1
  clear hN hok hrl hbv hb1 HF
  go_wp2_with fail
  go_loopw [7, 8, 9] (ARel w xs ys b (.slice a1 n c1) (.slice a2 m c2) vr rows N) (fun _ x y _ => (n - (intOf x).toNat) + (m - (intOf y).toNat))
  case atStart =>
    exact ⟨0, 0, [], Nat.zero_le _, Nat.zero_le _, rfl, rfl, World.ownsRow_nil _ _ _ _, fun r hr => by simp at hr, by simp [expand, My.S_start], by rw [← HN.out]; exact Nat.le_refl _, Hbv.out.mono (by
      refine below_leE (Below.refl _ _) (fun k hk => ?_)
      simp [Value.ownBlock] at hk), Hb1.out⟩
  case round =>
    obtain ⟨i, j, rs, hi, hj, rfl, rfl, hown, hgood, hexp, hDN, hbv, hbel⟩ := hrel
    rw [Hn.out] at hi
    rw [Hm.out] at hj
    have hsz := hbel.size
    have hlen : (expand rs).length ≤ 400 := by
      have := congrArg List.length hexp
      rw [List.length_append] at this
      have := HK.out.2
      omega
    have hrl := (expand_len_ge hgood).1
    have Hr := Lib.hid (hgood.runs (m := 10000000) (by omega))
    have Hown := Lib.hid hown; have Hgood := Lib.hid hgood; have Hexp := Lib.hid hexp; have Hbw := Lib.hid hbv; have HDN := Lib.hid hDN
    clear hown hgood hexp hbv hDN
    have HE : Hid (∀ (wx : World) (k : Nat), Below wr.heap.size wr wx → Calls Try.prog 19 #[u7, .int .i64 k, .int .i64 1] wx (OwnPost wx w.heap.size 42 2 u7 (addR rs k 1).length ((addR rs k 1).flatMap runC))) :=
      fun wx k hb => add_any w.heap.size u7 rs k 1 wx (owns_below Hown.out hb) (Nat.le_trans hsz hb.size) (by omega) Hr.out (by omega)
    have HBV : Hid (∀ wx : World, Below wr.heap.size wr wx → BV (fragE wx [u7.ownBlock]) b xs ys rows (.slice a1 n c1) (.slice a2 m c2) vr) := fun wx hb => Hbw.out.mono (belowE hb (fun _ h => .inl h))
    have HED : Hid (∀ (wx : World) (x y : Nat), Below wr.heap.size wr wx → x ≤ n → y ≤ m → Calls Try.prog 23 #[.pointer (some ⟨b, 0, none⟩), .int .i64 x, .int .i64 y] wx fun e w' => e = .returned (.int .i64 (editsR xs ys N x y)) ∧ Below wx.heap.size wx w') :=
      fun wx x y hb h5 h6 => edits_any b xs ys _ _ vr rows N wx ((HBV.out wx hb).mono (fragE_le _ _)) Hok.out Hrl.out (by omega) (by rw [Hn.out]; exact hx) (by rw [Hm.out]; exact hy) x y (by rw [Hn.out]; exact h5) (by rw [Hm.out]; exact h6)
    have hbq : ∀ q, Below wr.heap.size wr (wr.drewN q) := fun q => Below.drewN (Below.refl _ _) q
    have Hbq := Lib.hid hbq; clear hbq
    by_cases hin : i < n
    · have hix : i < xs.length := by rw [Hn.out]; exact hin
      by_cases hjm : j < m
      · have hjy : j < ys.length := by rw [Hm.out]; exact hjm
        obtain ⟨b0, o0, u0, hb0, hidx, hcell, hu0⟩ := ListV.at (n := n) (cap := c1) (a := a1) (ListV.mono IntR.mono Hbw.out.2.1 (fragE_le _ _)) (i := i) hix Try.underlying40 sizeInt
        obtain ⟨b1, o1, u1, hb1', hidx1, hcell1, hu1⟩ := ListV.at (n := m) (cap := c2) (a := a2) (ListV.mono IntR.mono Hbw.out.2.2.1 (fragE_le _ _)) (i := j) hjy Try.underlying40 sizeInt
        unfold IntR at hu0 hu1
        subst hu0 hu1
        by_cases he : xs[i] = ys[j]
        · have hbq : (xs[i] == ys[j]) = true := by simpa using he
          have He := Lib.hid he; clear he
          go_wp2
          go_quiet (fail)
          go_wp2_with fail
          refine (HE.out _ 1 (Hbq.out _)).mono ?_
          rintro e w4 ⟨v4, rfl, h5, h6, h7⟩
          have Hrel := Lib.hid (ARel.step (i' := i + 1) (j' := j + 1) (N := N) (owns_below Hown.out (Hbq.out _)) Hgood.out Hexp.out (HBV.out _ (Hbq.out _)) (hbel.trans ((Hbq.out _).mono hsz)) h5 h6 h7 (by omega) (by omega) (My.S_keep hix hjy He.out) (by omega) (by omega) (by rw [My.D_keep hix hjy He.out]; exact HDN.out))
          clear h5 h6 h7
          go_wp2_with fail
          go_roundw
          case rel => exact Hrel.out
          case measure => simp [intOf]; omega
        · have hbq : (xs[i] == ys[j]) = false := by simpa using he
          have hjmq : ((j : Int) == (m : Int)) = false := by simp; omega
          have hmin : D xs ys (i + 1) j ≤ N ∨ D xs ys i (j + 1) ≤ N := by
            have := My.D_ne hix hjy he
            have h2 := HDN.out
            omega
          have hcmp := edits_cmp (by omega) hmin
          have He := Lib.hid he; clear he hmin
          by_cases hle : D xs ys (i + 1) j ≤ D xs ys i (j + 1)
          · have hcm : editsR xs ys N (i + 1) j ≤ editsR xs ys N i (j + 1) := hcmp.2 hle
            have Hle := Lib.hid hle; clear hle hcmp
            have H1 : Hid (∀ wx : World, Below wr.heap.size wr wx → Calls Try.prog 23 #[.pointer (some ⟨b, 0, none⟩), .int .i64 ((i : Int) + 1), .int .i64 j] wx fun e w' => e = .returned (.int .i64 (editsR xs ys N (i + 1) j)) ∧ Below wx.heap.size wx w') := fun wx hb => HED.out wx (i + 1) j hb (by omega) hj
            have H2 : Hid (∀ wx : World, Below wr.heap.size wr wx → Calls Try.prog 23 #[.pointer (some ⟨b, 0, none⟩), .int .i64 i, .int .i64 ((j : Int) + 1)] wx fun e w' => e = .returned (.int .i64 (editsR xs ys N i (j + 1))) ∧ Below wx.heap.size wx w') := fun wx hb => HED.out wx i (j + 1) hb hi (by omega)
            generalize editsR xs ys N (i + 1) j = e1 at *
            generalize editsR xs ys N i (j + 1) = e2 at *
            go_wp2
            go_quiet (fail)
            go_wp2_with fail
            refine (H1.out _ (Hbq.out _)).mono ?_
            rintro e w2 ⟨rfl, hb2⟩
            have hb2' := (Hbq.out _).trans (hb2.mono (Hbq.out _).size)
            go_wp2_with fail
            refine (H2.out _ hb2').mono ?_
            rintro e w3 ⟨rfl, hb3⟩
            have hb3' := hb2'.trans (hb3.mono hb2'.size)
            go_wp2_with fail
            refine (HE.out _ 2 hb3').mono ?_
            rintro e w4 ⟨v4, rfl, h5, h6, h7⟩
            have Hrel := Lib.hid (ARel.step (i' := i + 1) (j' := j) (N := N) (owns_below Hown.out hb3') Hgood.out Hexp.out (HBV.out _ hb3') (hbel.trans (hb3'.mono hsz)) h5 h6 h7 (by omega) (by omega) (My.S_drop hix hjy He.out Hle.out) (by omega) (by omega) (by have := My.D_drop hix hjy He.out Hle.out; have := HDN.out; omega))
            clear h5 h6 h7
            go_wp2_with fail
            go_roundw
            case rel => exact Hrel.out
            case measure => simp [intOf]; omega
          · have hcm : ¬ editsR xs ys N (i + 1) j ≤ editsR xs ys N i (j + 1) := fun h => hle (hcmp.1 h)
            have Hle := Lib.hid hle; clear hle hcmp
            have H1 : Hid (∀ wx : World, Below wr.heap.size wr wx → Calls Try.prog 23 #[.pointer (some ⟨b, 0, none⟩), .int .i64 ((i : Int) + 1), .int .i64 j] wx fun e w' => e = .returned (.int .i64 (editsR xs ys N (i + 1) j)) ∧ Below wx.heap.size wx w') := fun wx hb => HED.out wx (i + 1) j hb (by omega) hj
            have H2 : Hid (∀ wx : World, Below wr.heap.size wr wx → Calls Try.prog 23 #[.pointer (some ⟨b, 0, none⟩), .int .i64 i, .int .i64 ((j : Int) + 1)] wx fun e w' => e = .returned (.int .i64 (editsR xs ys N i (j + 1))) ∧ Below wx.heap.size wx w') := fun wx hb => HED.out wx i (j + 1) hb hi (by omega)
            generalize editsR xs ys N (i + 1) j = e1 at *
            generalize editsR xs ys N i (j + 1) = e2 at *
            go_wp2
            go_quiet (fail)
            go_wp2_with fail
            refine (H1.out _ (Hbq.out _)).mono ?_
            rintro e w2 ⟨rfl, hb2⟩
            have hb2' := (Hbq.out _).trans (hb2.mono (Hbq.out _).size)
            go_wp2_with fail
            refine (H2.out _ hb2').mono ?_
            rintro e w3 ⟨rfl, hb3⟩
            have hb3' := hb2'.trans (hb3.mono hb2'.size)
            go_wp2_with fail
            refine (HE.out _ 3 hb3').mono ?_
            rintro e w4 ⟨v4, rfl, h5, h6, h7⟩
            have Hrel := Lib.hid (ARel.step (i' := i) (j' := j + 1) (N := N) (owns_below Hown.out hb3') Hgood.out Hexp.out (HBV.out _ hb3') (hbel.trans (hb3'.mono hsz)) h5 h6 h7 (by omega) (by omega) (My.S_put hix hjy He.out Hle.out) (by omega) (by omega) (by have := My.D_put hix hjy He.out Hle.out; have := HDN.out; omega))
            clear h5 h6 h7
            go_wp2_with fail
            go_roundw
            case rel => exact Hrel.out
            case measure => simp [intOf]; omega
      · obtain rfl : j = m := by omega
        have hjmq : ((j : Int) == (j : Int)) = true := by simp
        have hSd : S xs ys i j = 2 :: S xs ys (i + 1) j := by have := Hm.out; subst this; exact My.S_drop_end hix
        have hDd : D xs ys (i + 1) j ≤ N := by
          have h2 := HDN.out
          have := Hm.out
          subst this
          rw [My.D_end'] at h2 ⊢
          omega
        have HSd := Lib.hid hSd; have HDd := Lib.hid hDd
        clear hSd hDd
        go_wp2
        go_quiet (fail)
        go_wp2_with fail
        refine (HE.out _ 2 (Hbq.out _)).mono ?_
        rintro e w4 ⟨v4, rfl, h5, h6, h7⟩
        have Hrel := Lib.hid (ARel.step (i' := i + 1) (j' := j) (N := N) (owns_below Hown.out (Hbq.out _)) Hgood.out Hexp.out (HBV.out _ (Hbq.out _)) (hbel.trans ((Hbq.out _).mono hsz)) h5 h6 h7 (by omega) (by omega) HSd.out (by omega) (by rw [Hm.out]; exact Nat.le_refl _) HDd.out)
        clear h5 h6 h7
        go_wp2_with fail
        go_roundw
        case rel => exact Hrel.out
        case measure => simp [intOf]; omega
    · obtain rfl : i = n := by omega
      by_cases hjm : j < m
      · have hjy : j < ys.length := by rw [Hm.out]; exact hjm
        have hjmq : ((j : Int) == (m : Int)) = false := by simp; omega
        have hSd : S xs ys i j = 3 :: S xs ys i (j + 1) := by have := Hn.out; subst this; exact My.S_put_end hjy
        have hDd : D xs ys i (j + 1) ≤ N := by
          have h2 := HDN.out
          have := Hn.out
          subst this
          rw [My.D_end] at h2 ⊢
          omega
        have HSd := Lib.hid hSd; have HDd := Lib.hid hDd
        clear hSd hDd
        go_wp2
        go_quiet (fail)
        go_wp2_with fail
        refine (HE.out _ 3 (Hbq.out _)).mono ?_
        rintro e w4 ⟨v4, rfl, h5, h6, h7⟩
        have Hrel := Lib.hid (ARel.step (i' := i) (j' := j + 1) (N := N) (owns_below Hown.out (Hbq.out _)) Hgood.out Hexp.out (HBV.out _ (Hbq.out _)) (hbel.trans ((Hbq.out _).mono hsz)) h5 h6 h7 (by omega) (by omega) HSd.out (by rw [Hn.out]; exact Nat.le_refl _) (by omega) HDd.out)
        clear h5 h6 h7
        go_wp2_with fail
        go_roundw
        case rel => exact Hrel.out
        case measure => simp [intOf]; omega
      · obtain rfl : j = m := by omega
        go_wp2_with fail
        go_ret
        have hS : S xs ys i j = [] := by
          have h5 := Hn.out; have h6 := Hm.out
          subst h5 h6
          exact My.S_done xs ys
        have he := Hexp.out
        rw [hS, List.append_nil] at he
        have hF := FlatV.of_owns (E := []) Hown.out rfl (.inr (by simp))
        rw [fragE_nil] at hF
        exact ⟨_, rs, rfl, hF, Hgood.out, he, hbel⟩

end Go.Proofs.Ytlilamlolnkboaa
