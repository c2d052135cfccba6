/- redlineref19.Table, walked: the table of distances. -/
import Derived.Test.YtlilamlolnkboaaMyLook
import Derived.Test.YtlilamlolnkboaaMySteps
namespace Go.Proofs.Ytlilamlolnkboaa
open Go.RowKit Go.WideShapes
open My (D)
set_option linter.unusedVariables false

def Drow (xs ys : List Int) (x : Nat) : List Int := (List.range (ys.length + 1)).map fun y => (D xs ys x y : Int)
def TB (xs ys : List Int) (k : Nat) : List (List Int) := ((List.range (xs.length + 1)).drop k).map (Drow xs ys)
theorem Drow_len (xs ys : List Int) (x : Nat) : (Drow xs ys x).length = ys.length + 1 := by simp [Drow]
theorem Drow_get (xs ys : List Int) (x y : Nat) (h : y < (Drow xs ys x).length) : (Drow xs ys x)[y] = D xs ys x y := by simp [Drow]
theorem Drow_drop {xs ys : List Int} {x y : Nat} (h : y ≤ ys.length) : (Drow xs ys x).drop y = (D xs ys x y : Int) :: (Drow xs ys x).drop (y + 1) := by
  rw [List.drop_eq_getElem_cons (by rw [Drow_len]; omega), Drow_get]
theorem TB_len (xs ys : List Int) (k : Nat) : (TB xs ys k).length = xs.length + 1 - k := by simp [TB]
theorem TB_get (xs ys : List Int) (k i : Nat) (h : i < (TB xs ys k).length) : (TB xs ys k)[i] = Drow xs ys (k + i) := by simp [TB]
theorem TB_cons {xs ys : List Int} {k : Nat} (h : k ≤ xs.length) : TB xs ys k = Drow xs ys k :: TB xs ys (k + 1) := by
  unfold TB
  rw [List.drop_eq_getElem_cons (by simp; omega)]
  simp
theorem TB_end (xs ys : List Int) : TB xs ys (xs.length + 1) = [] := by simp [TB]

theorem own_idx1 {P : Program} {t : TypeId} {g n cap i : Nat} (hi : i < n) (ht : P.underlying t = some (.slice (P.elem t))) (hs : ∀ w, (sizeOf (P.elem t)).run P w = .ok 1 w) (w : World) :
    (Instr.indexAt t (.slice (some ⟨g, 0, none⟩) n cap) (.int .i64 i)).run P w = .ok (.pointer (some ⟨g, i, none⟩)) w := by
  rw [run_indexAt_slice (h := ht), if_pos (by omega), hs]
  simp [Result.andThen, Addr.add_none]

theorem Done.cons {h : Frag} {vs : List Value} {rows : List (List Int)} {v : Value} {r : List Int} (hv : ListV IntR h v r) (hd : Done h vs rows) : Done h (v :: vs) (r :: rows) := by
  refine ⟨by simp [hd.1], fun x h1 h2 => ?_⟩
  cases x with
  | zero => exact hv
  | succ x => exact hd.2 x (by simpa using h1) (by simpa using h2)

def nilV : Value := .slice none 0 0
theorem back_set {z v : Value} {y : Nat} {rest : List Value} : (List.replicate (y + 1) z ++ rest).set y v = List.replicate y z ++ v :: rest := by
  rw [List.replicate_succ', List.append_assoc, List.set_append_right _ _ (by simp)]
  simp
theorem back_get {z : Value} {y : Nat} {rest : List Value} : (List.replicate (y + 1) z ++ rest)[y]? = some z := by
  rw [List.getElem?_append_left (by simp)]
  simp

def TOut (w : World) (xs ys : List Int) (gt : Nat) (x : Value) (wr : World) : Prop :=
  ∃ (k : Nat) (dv : List Value), k ≤ xs.length + 1 ∧ x = .int .i64 ((k : Int) - 1) ∧ wr.ownsRow w.heap.size 40 1 (.slice (some ⟨gt, 0, none⟩) (xs.length + 1) (xs.length + 1)) (xs.length + 1) (List.replicate k nilV ++ dv) ∧
    Done (fragE wr [some gt]) dv (TB xs ys k) ∧ Below w.heap.size w wr
def TIn (w : World) (xs ys : List Int) (gt g x : Nat) (dv : List Value) (y : Value) (wr : World) : Prop :=
  ∃ l : Nat, l ≤ ys.length + 1 ∧ y = .int .i64 ((l : Int) - 1) ∧ wr.ownsRow w.heap.size 40 1 (.slice (some ⟨gt, 0, none⟩) (xs.length + 1) (xs.length + 1)) (xs.length + 1) (List.replicate x nilV ++ .slice (some ⟨g, 0, none⟩) (ys.length + 1) (ys.length + 1) :: dv) ∧
    wr.ownsRow w.heap.size 3 1 (.slice (some ⟨g, 0, none⟩) (ys.length + 1) (ys.length + 1)) (ys.length + 1) (List.replicate l (.int .i64 0) ++ intVals ((Drow xs ys x).drop l)) ∧
    Done (fragE wr [some gt, some g]) dv (TB xs ys (x + 1)) ∧ Below w.heap.size w wr
def TablePost (w : World) (xs ys : List Int) (e : Ending) (w' : World) : Prop :=
  ∃ v, e = .returned v ∧ ListV (ListV IntR) (frag w') v (TB xs ys 0) ∧ Below w.heap.size w w'

/-- one number more -/
theorem TIn.step {w wr wx : World} {xs ys : List Int} {gt g x y : Nat} {dv : List Value} {v : Int} (hy : y ≤ ys.length) (hv : v = D xs ys x y)
    (ht : wr.ownsRow w.heap.size 40 1 (.slice (some ⟨gt, 0, none⟩) (xs.length + 1) (xs.length + 1)) (xs.length + 1) (List.replicate x nilV ++ .slice (some ⟨g, 0, none⟩) (ys.length + 1) (ys.length + 1) :: dv))
    (hr : wr.ownsRow w.heap.size 3 1 (.slice (some ⟨g, 0, none⟩) (ys.length + 1) (ys.length + 1)) (ys.length + 1) (List.replicate (y + 1) (.int .i64 0) ++ intVals ((Drow xs ys x).drop (y + 1))))
    (hd : Done (fragE wr [some gt, some g]) dv (TB xs ys (x + 1))) (hb : Below w.heap.size w wr) (hx : Below wr.heap.size wr wx) :
    TIn w xs ys gt g x dv (.int .i64 ((y : Int) - 1)) (wx.setCell ⟨g, y, none⟩ (.int .i64 v)) := by
  obtain ⟨h1, h2⟩ := (owns_below hr hx).stored y (.int .i64 v)
  have ht2 := owns_below ht hx
  refine ⟨y, by omega, rfl, ht2.kept h2 (owns_apart ht2 (owns_below hr hx) (fun e => types_ne e.symm)), ?_, ?_, ?_⟩
  · rw [back_set] at h1
    rw [Drow_drop hy, ← hv]
    exact h1
  · exact (hd.mono (belowE hx (fun _ h => .inl h))).mono (grownE h2 (.inr (by simp)) (fun _ h => .inl h))
  · exact (hb.trans (hx.mono hb.size)).grown h2 (Nat.le_trans hb.size hx.size) (own_ge hr)

theorem Dbound (xs ys : List Int) (x y : Nat) (hx : xs.length < 1000000) (hy : ys.length < 1000000) : D xs ys x y ≤ 3000000 := by
  unfold D
  have := My.dist_le _ (xs.drop x) (ys.drop y) (Nat.le_refl _)
  simp only [List.length_drop] at this
  omega

set_option maxRecDepth 100000 in
set_option maxHeartbeats 8000000 in
theorem table_any (xs ys : List Int) (v u : Value) (w : World) (hv : ListV IntR (frag w) v xs) (hu : ListV IntR (frag w) u ys) (hx : xs.length < 1000000) (hy : ys.length < 1000000) :
    Calls Try.prog 24 #[v, u] w (TablePost w xs ys) := by
  obtain ⟨a1, c1, rfl, h1, h2, _⟩ := hv.len
  obtain ⟨a2, c2, rfl, h3, h4, _⟩ := hu.len
  unfold maxLen at h2 h4
  have HX := Lib.hid hv; have HY := Lib.hid hu
  clear hv hu
  obtain ⟨i0, hi, hz0, hz1, hz2⟩ := info_parts T_ints.info
  have Hi := Lib.hid hi; have Hz0 := Lib.hid hz0; have Hz1 := Lib.hid hz1; have Hz2 := Lib.hid hz2
  clear hi hz0 hz1 hz2
  obtain ⟨i1, hi, hz0, hz1, hz2⟩ := info_parts T_intss.info
  have Hi' := Lib.hid hi; have Hz0' := Lib.hid hz0; have Hz1' := Lib.hid hz1; have Hz2' := Lib.hid hz2
  clear hi hz0 hz1 hz2
  generalize hn : xs.length = n at *
  generalize hm : ys.length = m at *
  have Hn := Lib.hid hn; have Hm := Lib.hid hm
  clear hn hm
  obtain ⟨n1, hn1⟩ : ∃ n1, n1 = n + 1 := ⟨_, rfl⟩
  have hn1' : (n : Int) + 1 = (n1 : Int) := by omega
  have Hn1 := Lib.hid hn1
  have hnb : n1 ≤ 1000000 := by omega
  clear hn1
  go_enter Try.func24, Try.ntmps24
  go_wp2_with (at_make; refine wpList_make_full _ rfl _ _ 35 rfl w.heap.size 40 i1 (.slice none 0 0) 1 Try.underlying35 Hi'.out Hz0'.out Hz1'.out .i64 .i64 _ _ n1 rfl rfl rfl rfl (by rw [Hz2'.out]; omega) (by unfold maxLen; omega) (Nat.le_refl _) ?_)
  intro w1 hrow hg1
  obtain ⟨gt, hgt⟩ : ∃ g, g = w.heap.size := ⟨_, rfl⟩
  rw [← hgt] at hrow ⊢
  rw [toList_madeCells_one] at hrow
  have Hrow := Lib.hid hrow; have Hgt := Lib.hid hgt
  have Hb1 : Hid (Below w.heap.size w w1) := (Below.refl _ _).grown hg1 (Nat.le_refl _) (by intro k hk; cases hk)
  clear hrow hgt hg1
  rw [Hn1.out] at Hrow ⊢
  clear hn1'
  go_wp2_with fail
  rw [show ((n + 1 : Nat) : Int) = (n : Int) + 1 by omega]
  go_loopw [6] (TOut w xs ys gt) (fun x _ => (intOf x + 1).toNat)
  case atStart =>
    refine ⟨n + 1, [], by rw [Hn.out]; exact Nat.le_refl _, by simp, ?_, ?_, Hb1.out⟩
    · rw [Hn.out, ← Hgt.out]; simpa [nilV] using Hrow.out
    · have := TB_end xs ys
      rw [Hn.out] at this
      rw [this]
      exact ⟨rfl, fun x hv => by simp at hv⟩
  case round =>
    obtain ⟨k, dv, hk, rfl, hown, hdone, hbel⟩ := hrel
    rw [Hn.out] at hk hown
    cases k with
    | zero =>
      have Hown := Lib.hid hown; have Hdone := Lib.hid hdone
      clear hown hdone
      go_wp2_with fail
      go_ret
      have hl : (TB xs ys 0).length = n + 1 := by rw [TB_len, Hn.out]; rfl
      have ho := Hown.out
      simp only [List.replicate_zero, List.nil_append] at ho
      rw [← hl] at ho
      have := ListV.of_owns (R := ListV IntR) (E := []) ho (.inr (by simp)) (fun i hv hx => by rw [fragE_nil]; exact (Hdone.out.mono (fragE_le _ _)).2 i hv hx)
      rw [fragE_nil, hl] at this
      exact ⟨_, rfl, this, hbel⟩
    | succ x =>
      have hxn : x ≤ n := by omega
      have hB0 := hbel.size
      obtain ⟨m1, hm1⟩ : ∃ m1, m1 = m + 1 := ⟨_, rfl⟩
      have hm1' : (m : Int) + 1 = (m1 : Int) := by omega
      have Hm1 := Lib.hid hm1
      have hmb : m1 ≤ 1000000 := by omega
      have Hown := Lib.hid hown; have Hdone := Lib.hid hdone
      clear hm1 hown hdone
      go_wp2_with (at_make; refine wpList_make_full _ rfl _ _ 40 rfl w.heap.size 3 i0 (.int .i64 0) 1 Try.underlying40 Hi.out Hz0.out Hz1.out .i64 .i64 _ _ m1 rfl rfl rfl rfl (by rw [Hz2.out]; omega) (by unfold maxLen; omega) hB0 ?_)
      intro w2 hrow hg2
      obtain ⟨g, hgd⟩ : ∃ g, g = wr.heap.size := ⟨_, rfl⟩
      rw [← hgd] at hrow ⊢
      rw [toList_madeCells_one] at hrow
      have hB2 : Below wr.heap.size wr w2 := (Below.refl _ _).grown hg2 (Nat.le_refl _) (by intro k hk; cases hk)
      have hown2 := owns_below Hown.out hB2
      have hcg := hown2.cellAt x (by omega)
      have hfg := hown2.frozenAt x
      rw [back_get] at hcg
      have hidx := own_idx1 (P := Try.prog) (t := 35) (g := gt) (n := n + 1) (cap := n + 1) (i := x) (by omega) Try.underlying35 sizeIntss
      obtain ⟨hs1, hs2⟩ := hown2.stored x (.slice (some ⟨g, 0, none⟩) m1 m1)
      rw [back_set] at hs1
      have hgg : gt ≠ g := by
        have := (Hown.out.lt gt rfl).2
        omega
      have hrow3 := hrow.kept hs2 (.inr (by simp [Value.ownBlock]; exact fun e => hgg e.symm))
      have hd3 : Done (fragE (w2.setCell ⟨gt, x, none⟩ (.slice (some ⟨g, 0, none⟩) m1 m1)) [some gt, some g]) dv (TB xs ys (x + 1)) := by
        refine (Hdone.out.mono (belowE (E' := [some gt, some g]) hB2 (fun k hk => ?_))).mono (grownE hs2 (.inr (by simp)) (fun _ h => .inl h))
        simp only [List.mem_cons, List.not_mem_nil, or_false, Option.some.injEq] at hk ⊢
        rcases hk with e | e
        · exact .inl e
        · right; omega
      have hbel3 : Below w.heap.size w (w2.setCell ⟨gt, x, none⟩ (.slice (some ⟨g, 0, none⟩) m1 m1)) := (hbel.trans (hB2.mono hB0)).grown hs2 (Nat.le_trans hB0 hB2.size) (fun k e => by cases e; exact own_ge Hown.out gt rfl)
      have hin : TIn w xs ys gt g x dv (.int .i64 m) (w2.setCell ⟨gt, x, none⟩ (.slice (some ⟨g, 0, none⟩) m1 m1)) := by
        refine ⟨m + 1, by rw [Hm.out]; exact Nat.le_refl _, by simp, ?_, ?_, hd3, hbel3⟩
        · rw [Hn.out, Hm.out, ← Hm1.out]; exact hs1
        · rw [Hm.out, ← Hm1.out, List.drop_of_length_le (by rw [Drow_len, Hm.out, Hm1.out]; exact Nat.le_refl _)]
          simpa [intVals] using hrow3
      have Hin := Lib.hid hin; have Hgg := Lib.hid hgg; have Hgd := Lib.hid hgd
      clear hin hgg hgd hs1 hs2 hrow hrow3 hd3 hbel3 hown2 hg2 hB2
      go_wp2_with fail
      rw [Hm1.out] at Hin ⊢
      clear hm1'
      rw [show ((m + 1 : Nat) : Int) = (m : Int) + 1 by omega]
      obtain ⟨wo, rfl⟩ : ∃ wo : World, wo = wr := ⟨_, rfl⟩
      go_loopw [7] (TIn w xs ys gt g x dv) (fun y _ => (intOf y + 1).toNat)
      case atStart => exact Hin.out
      case round =>
        obtain ⟨l, hl, rfl, ht, hr, hd, hbl⟩ := hrel
        rw [Hn.out, Hm.out] at ht
        rw [Hm.out] at hl hr
        cases l with
        | zero =>
          have Ht := Lib.hid ht; have Hr := Lib.hid hr; have Hd := Lib.hid hd
          clear ht hr hd
          go_wp2_with fail
          go_roundw
          case rel =>
            refine ⟨x, .slice (some ⟨g, 0, none⟩) (m + 1) (m + 1) :: dv, by rw [Hn.out]; omega, rfl, by rw [Hn.out]; exact Ht.out, ?_, hbl⟩
            have hr := Hr.out
            simp only [List.replicate_zero, List.nil_append, List.drop_zero] at hr
            have hl : (Drow xs ys x).length = m + 1 := by rw [Drow_len, Hm.out]
            rw [← hl] at hr
            have h5 := ListV.of_owns (R := IntR) (E := [some gt]) hr (.inr (by simp [Value.ownBlock]; exact fun e => Hgg.out e.symm)) (fun i hv hx => by simp [IntR, intVals])
            rw [hl] at h5
            rw [TB_cons (by rw [Hn.out]; exact hxn)]
            exact Done.cons h5 (Hd.out.mono (subE _ (fun k hk => by simp only [List.mem_cons, List.not_mem_nil, or_false] at hk ⊢; exact .inl hk)))
          case measure => simp [intOf]
        | succ y =>
          have hym : y ≤ m := by omega
          have hidx := own_idx1 (P := Try.prog) (t := 35) (g := gt) (n := n + 1) (cap := n + 1) (i := x) (by omega) Try.underlying35 sizeIntss
          have hidy := own_idx1 (P := Try.prog) (t := 40) (g := g) (n := m + 1) (cap := m + 1) (i := y) (by omega) Try.underlying40 sizeInt
          have hct := ht.cellAt x (by omega)
          have hcr := hr.cellAt y (by omega)
          have hfr := hr.frozenAt y
          rw [back_get] at hcr
          rw [List.getElem?_append_right (by simp), List.length_replicate, Nat.sub_self] at hct
          simp only [List.getElem?_cons_zero] at hct
          have ht' := ht; have hr' := hr
          rw [← Hn.out, ← Hm.out] at ht'
          rw [← Hm.out] at hr'
          have Hstep : Hid (∀ (v : Int) (wx : World), v = D xs ys x y → Below wr.heap.size wr wx → TIn w xs ys gt g x dv (.int .i64 ((y : Int) - 1)) (wx.setCell ⟨g, y, none⟩ (.int .i64 v))) :=
            fun v wx hv hb => TIn.step (by rw [Hm.out]; exact hym) hv ht' hr' hd hbl hb
          have Ht := Lib.hid ht; have Hr := Lib.hid hr; have Hd := Lib.hid hd
          clear ht hr hd ht' hr'
          by_cases hxe : x = n
          · subst hxe
            have Hv : Hid ((m : Int) - y = D xs ys x y) := by
              show (_ : Int) = _
              have := Hn.out; subst this
              rw [My.D_end, Hm.out]; omega
            go_wp2_with fail
            go_roundw
            case rel => exact Hstep.out _ _ Hv.out (Below.refl _ _)
            case measure => simp [intOf]
          · have hxq : ((x : Int) == (n : Int)) = false := by simp; omega
            by_cases hye : y = m
            · subst hye
              have Hv : Hid ((n : Int) - x = D xs ys x y) := by
                show (_ : Int) = _
                have := Hm.out; subst this
                rw [My.D_end', Hn.out]; omega
              go_wp2_with fail
              go_roundw
              case rel => exact Hstep.out _ _ Hv.out (Below.refl _ _)
              case measure => simp [intOf]
            · have hyq : ((y : Int) == (m : Int)) = false := by simp; omega
              have hxs : x < xs.length := by rw [Hn.out]; omega
              have hys : y < ys.length := by rw [Hm.out]; omega
              obtain ⟨b0, o0, u0, hb0, hidx0, hcell0', hu0⟩ := ListV.at (n := n) (cap := c1) (a := a1) HX.out (i := x) hxs Try.underlying40 sizeInt
              obtain ⟨b1, o1, u1, hb1, hidx1, hcell1', hu1⟩ := ListV.at (n := m) (cap := c2) (a := a2) HY.out (i := y) hys Try.underlying40 sizeInt
              unfold IntR at hu0 hu1
              subst hu0 hu1
              have hcell0 := (hbl.cell (p := ⟨b0, o0, none⟩) hb0).trans hcell0'
              have hcell1 := (hbl.cell (p := ⟨b1, o1, none⟩) hb1).trans hcell1'
              clear hcell0' hcell1'
              -- the row behind
              obtain ⟨d0, dv', rfl⟩ : ∃ d0 dv', dv = d0 :: dv' := by
                have h5 := Hd.out.1
                rw [TB_len, Hn.out] at h5
                cases dv with
                | nil => simp at h5; omega
                | cons d0 dv' => exact ⟨d0, dv', rfl⟩
              have hd0 : ListV IntR (frag wr) d0 (Drow xs ys (x + 1)) := by
                have h5 := (Hd.out.mono (fragE_le _ _)).2 0 (by simp) (by rw [TB_len, Hn.out]; omega)
                rw [TB_get] at h5
                simpa using h5
              obtain ⟨ad, cd, rfl, hdc, hdm, _⟩ := hd0.len
              have hDl : (Drow xs ys (x + 1)).length = m + 1 := by rw [Drow_len, Hm.out]
              rw [hDl] at hd0 hdc
              obtain ⟨b2, o2, u2, hb2, hidx2, hcell2, hu2⟩ := ListV.at hd0 (i := y) (by rw [hDl]; omega) Try.underlying40 sizeInt
              obtain ⟨b3, o3, u3, hb3, hidx3, hcell3, hu3⟩ := ListV.at hd0 (i := y + 1) (by rw [hDl]; omega) Try.underlying40 sizeInt
              unfold IntR at hu2 hu3
              rw [Drow_get] at hu2 hu3
              subst hu2 hu3
              have hidx' := own_idx1 (P := Try.prog) (t := 35) (g := gt) (n := n + 1) (cap := n + 1) (i := x + 1) (by omega) Try.underlying35 sizeIntss
              have hidy' := own_idx1 (P := Try.prog) (t := 40) (g := g) (n := m + 1) (cap := m + 1) (i := y + 1) (by omega) Try.underlying40 sizeInt
              have hct' := Ht.out.cellAt (x + 1) (by omega)
              have hcr' := Hr.out.cellAt (y + 1) (by omega)
              rw [List.getElem?_append_right (by simp), List.length_replicate, show x + 1 - x = 1 by omega] at hct'
              rw [List.getElem?_append_right (by simp), List.length_replicate, Nat.sub_self, Drow_drop (by omega)] at hcr'
              simp only [List.getElem?_cons_zero, List.getElem?_cons_succ, intVals, List.map_cons] at hct' hcr'
              rw [show ((x + 1 : Nat) : Int) = (x : Int) + 1 by omega] at hidx'
              rw [show ((y + 1 : Nat) : Int) = (y : Int) + 1 by omega] at hidy' hidx3
              clear hd0
              by_cases he : xs[x] = ys[y]
              · have hbq : (xs[x] == ys[y]) = true := by simpa using he
                have Hv : Hid ((D xs ys (x + 1) (y + 1) : Int) = D xs ys x y) := by
                  show (_ : Int) = _
                  rw [My.D_keep hxs hys he]
                clear he
                go_wp2
                go_quiet (fail)
                go_wp2
                go_region
                all_goals
                  go_wp2
                  go_roundw
                  case rel => exact Hstep.out _ _ Hv.out (Below.drewN (Below.refl _ _) _)
                  case measure => simp [intOf]
              · have hbq : (xs[x] == ys[y]) = false := by simpa using he
                by_cases hlt : D xs ys (x + 1) y < D xs ys x (y + 1)
                · have Hv : Hid ((D xs ys (x + 1) y : Int) + 1 = D xs ys x y) := by
                    show (_ : Int) = _
                    rw [My.D_ne hxs hys he, Nat.min_eq_left (by omega)]; omega
                  have hDb : D xs ys (x + 1) y ≤ 3000000 := Dbound xs ys _ _ (by rw [Hn.out]; exact hx) (by rw [Hm.out]; exact hy)
                  clear he
                  generalize D xs ys (x + 1) y = e1 at *
                  generalize D xs ys x (y + 1) = e2 at *
                  go_wp2
                  go_quiet (fail)
                  go_wp2
                  go_quiet (fail)
                  go_wp2
                  go_region
                  all_goals
                    go_wp2
                    go_roundw
                    case rel => exact Hstep.out _ _ Hv.out (Below.drewN (Below.refl _ _) _)
                    case measure => simp [intOf]
                · have Hv : Hid ((D xs ys x (y + 1) : Int) + 1 = D xs ys x y) := by
                    show (_ : Int) = _
                    rw [My.D_ne hxs hys he, Nat.min_eq_right (by omega)]; omega
                  have hDb : D xs ys x (y + 1) ≤ 3000000 := Dbound xs ys _ _ (by rw [Hn.out]; exact hx) (by rw [Hm.out]; exact hy)
                  clear he
                  generalize D xs ys (x + 1) y = e1 at *
                  generalize D xs ys x (y + 1) = e2 at *
                  go_wp2
                  go_quiet (fail)
                  go_wp2
                  go_quiet (fail)
                  go_wp2
                  go_region
                  all_goals
                    go_wp2
                    go_roundw
                    case rel => exact Hstep.out _ _ Hv.out (Below.drewN (Below.refl _ _) _)
                    case measure => simp [intOf]

end Go.Proofs.Ytlilamlolnkboaa
