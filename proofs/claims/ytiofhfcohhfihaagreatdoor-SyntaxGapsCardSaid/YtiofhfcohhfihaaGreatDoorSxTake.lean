/- Package syntax, walked: fail, of, sees, takes, sign, word, must. -/
import Derived.Test.YtiofhfcohhfihaaGreatDoorSxPeek
namespace Go.Proofs.YtiofhfcohhfihaaGreatDoor
open Go.RowKit
set_option linter.unusedVariables false
set_option linter.unusedSimpArgs false

theorem Par.below {A : Nat → Addr} {p : Nat} {v : Value} {ts : List Lx.Tok} {s : Sx.St} {w w' : World} (h : Par A p v ts s w) (hb : Below w.heap.size w w') : Par A p v ts s w' := by
  obtain ⟨ev, hB, hE, hF, hl⟩ := h
  exact ⟨ev, hB.below hb hB.lt, hE.kept (Kept.of_below (S := []) hb) (fun k hk => by cases hk), hF.mono (belowE hb (fun k hk => .inl hk)), hl⟩
theorem Par.lt {A : Nat → Addr} {p : Nat} {v : Value} {ts : List Lx.Tok} {s : Sx.St} {w : World} (h : Par A p v ts s w) : p < w.heap.size := by
  obtain ⟨ev, hB, _⟩ := h; exact hB.lt
theorem flat_grown {p : Nat} {v : Value} {ts : List Lx.Tok} {w w' : World} (hF : FlatV tC (fragE w [some p]) v ts) (hg : w.grownBy w' (some p)) : FlatV tC (fragE w' [some p]) v ts :=
  hF.mono (grownE hg (.inr (by simp)) (fun k hk => .inl hk))
theorem toB_beq (a b : Lx.Bs) : ((toB a).toList == (toB b).toList) = decide (a = b) := by
  rw [Lib.toList_data, Lib.toList_data, toB_list, toB_list, Bool.eq_iff_iff, beq_iff_eq, decide_eq_true_iff]
theorem one_tC (t : Lx.Tok) : ∀ u ∈ tC t, u.oneCell' = true := one_tok _ _ _ _ _

set_option maxHeartbeats 2000000 in
set_option maxRecDepth 100000 in
theorem sees_any (A : Nat → Addr) (p k : Nat) (v : Value) (ts : List Lx.Tok) (s : Sx.St) (t : Lx.Bs) (w : World) (h : Par A p v ts s w) :
    Calls Tryz.prog 77 #[.pointer (some ⟨p, 0, none⟩), .int .i64 k, .string (toB t)] w fun e w' => e = .returned (.bool (Sx.sees ts k t s)) ∧ Below w.heap.size w w' := by
  have HP := Lib.hid (peek_any A p v ts s w h)
  clear h
  unfold Sx.sees
  generalize Sx.peek ts s = x at *
  have hz : ((x.kind : Int) == (k : Int)) = decide (x.kind = k) := by
    rw [Bool.eq_iff_iff, beq_iff_eq, decide_eq_true_iff]; omega
  have hs := toB_beq x.text t
  have hd : decide (x.kind = k ∧ x.text = t) = (decide (x.kind = k) && decide (x.text = t)) := by simp
  rw [hd]
  clear hd
  generalize decide (x.kind = k) = b1 at *
  generalize decide (x.text = t) = b2 at *
  cases b1
  all_goals
    go_enter Tryz.func77, Tryz.ntmps77
    go_upto_region 2 with (first
      | (go_at_call 74; (with_reducible refine HP.out.mono ?_); rintro e w1 ⟨rfl, hb1⟩)
      | (refine wpList_alloc_lay rfl 35 rfl zT zeroT ?_; (intro w3 g3 hg3 hB3 hb3))
      | (refine wpList_store_all rfl 35 _ _ rfl g3 (tC x) rfl rfl zT hB3 infoT rfl (one_tC x) ?_; (intro w4 hB4 hgr; have Hb4 := Lib.hid (hb1.trans ((Below.grown hb3 hgr hb3.size (fun _ e => by cases e; exact hg3)).mono hb1.size)); clear hgr hB3 hb3)))
    have c0 : w4.cell? ⟨g3, 0, none⟩ = some (.int .i64 x.kind) := hB4.cell (o := 0) rfl
    have c1 : w4.cell? ⟨g3, 1, none⟩ = some (.string (toB x.text)) := hB4.cell (o := 1) rfl
    clear hB4
    go_simp
    go_wp2_with fail
    go_ret
    exact ⟨ret_bool (by simp), Hb4.out⟩

set_option maxHeartbeats 2000000 in
set_option maxRecDepth 100000 in
theorem takes_any (A : Nat → Addr) (p k : Nat) (hk : k ≠ 0) (v : Value) (ts : List Lx.Tok) (s : Sx.St) (t : Lx.Bs) (w : World) (h : Par A p v ts s w) :
    Calls Tryz.prog 36 #[.pointer (some ⟨p, 0, none⟩), .int .i64 k, .string (toB t)] w fun e w' => e = .returned (.bool (Sx.takes ts k t s).1) ∧ Par A p v ts (Sx.takes ts k t s).2 w' ∧ Kept [p] w w' := by
  have HS := Lib.hid (sees_any A p k v ts s t w h)
  unfold Sx.takes
  cases hs : Sx.sees ts k t s
  · rw [hs] at HS
    have Hp := Lib.hid h
    clear h hs
    go_enter Tryz.func36, Tryz.ntmps36
    go_wp2_with fail
    refine HS.out.mono ?_
    rintro e w1 ⟨rfl, hb1⟩
    go_wp2_with fail
    go_ret
    exact ⟨rfl, Hp.out.below hb1, Kept.of_below hb1⟩
  · have hpk : s.err = none ∧ s.pos < ts.length := by
      unfold Sx.sees Sx.peek at hs
      cases he : s.err with
      | some x => rw [he] at hs; simp [Sx.zTok] at hs; omega
      | none =>
        refine ⟨rfl, ?_⟩
        rw [he] at hs
        rcases Nat.lt_or_ge s.pos ts.length with h1 | h1
        · exact h1
        · rw [List.getElem?_eq_none h1] at hs; simp [Sx.zTok] at hs; omega
    rw [hs] at HS
    obtain ⟨hpe, hpl⟩ := hpk
    have Hp := Lib.hid h
    clear hs h
    go_enter Tryz.func36, Tryz.ntmps36
    go_wp2_with fail
    refine HS.out.mono ?_
    rintro e w1 ⟨rfl, hb1⟩
    obtain ⟨ev, hB, hE, hF, hl⟩ := Hp.out.below hb1
    have hcm : s.pos ≤ maxLen := by obtain ⟨_, _, _, h1, h2, _⟩ := hF.len; omega
    unfold maxLen at hcm
    have hcm2 : s.pos + 1 ≤ 9223372036854775807 := by
      obtain ⟨_, _, _, h1, h2, _⟩ := hF.len
      unfold maxLen at h2; omega
    have c1 : w1.cell? ⟨p, 1, none⟩ = some (.int .i64 (s.pos : Nat)) := hB.cell (o := 1) rfl
    have HB := Lib.hid hB; have HE := Lib.hid hE; have HF := Lib.hid hF
    have f1 := hB.frozen 1
    clear hB hE hF hl
    go_wp2_with fail
    go_ret
    have hg : w1.grownBy (w1.setCell ⟨p, 1, none⟩ (.int .i64 ((s.pos : Int) + 1))) (some p) := grown_setCell _ _ _
    refine ⟨rfl, ⟨ev, HB.out.setCell (o := 1) _, HE.out.kept (S := [p]) (Kept.of_grown hg (by simp)) (fun k hk _ => by simpa using hk), flat_grown HF.out hg, hpl⟩, (Kept.of_below hb1).trans (Kept.of_grown hg (by simp))⟩

end Go.Proofs.YtiofhfcohhfihaaGreatDoor
