/- edit.bare, walked. -/
import Derived.Test.YtkldcjlkeblggaaDoorEOwn
import Derived.Test.YtkldcjlkeblggaaDoorERight0
import Derived.Test.YtkldcjlkeblggaaDoorGroupA
namespace Go.Proofs.YtkldcjlkeblggaaDoor
open Go.RowKit
open Val (V E cmp right noneV partB bareE eright v0)
set_option linter.unusedVariables false

/-- what is read off an edit's block -/
structure EdAt (w : World) (g : Nat) (k : Int) (oc nc : List Value) (a1 : Option Addr) (n1 c1 : Nat) (r : Bool) (ro rn : ByteArray) (a2 : Option Addr) (n2 c2 : Nat) (a3 : Option Addr) (n3 c3 : Nat) : Prop where
  r1 : w.rangeAt g 1 oc
  r8 : w.rangeAt g 8 nc
  c0 : w.cell? ⟨g, 0, none⟩ = some (.int .i64 k)
  c15 : w.cell? ⟨g, 15, none⟩ = some (.slice a1 n1 c1)
  c16 : w.cell? ⟨g, 16, none⟩ = some (.bool r)
  c17 : w.cell? ⟨g, 17, none⟩ = some (.string ro)
  c18 : w.cell? ⟨g, 18, none⟩ = some (.string rn)
  c19 : w.cell? ⟨g, 19, none⟩ = some (.slice a2 n2 c2)
  c20 : w.cell? ⟨g, 20, none⟩ = some (.slice a3 n3 c3)
theorem EdAt.of {w : World} {g : Nat} {k : Int} {oc nc : List Value} {a1 : Option Addr} {n1 c1 : Nat} {r : Bool} {ro rn : ByteArray} {a2 : Option Addr} {n2 c2 : Nat} {a3 : Option Addr} {n3 c3 : Nat} (lo : oc.length = 7) (ln : nc.length = 7)
    (h : Blk w g (.int .i64 k :: (oc ++ (nc ++ [.slice a1 n1 c1, .bool r, .string ro, .string rn, .slice a2 n2 c2, .slice a3 n3 c3])))) : EdAt w g k oc nc a1 n1 c1 r ro rn a2 n2 c2 a3 n3 c3 := by
  have C : Cells21 (.int .i64 k :: (oc ++ (nc ++ [.slice a1 n1 c1, .bool r, .string ro, .string rn, .slice a2 n2 c2, .slice a3 n3 c3]))) (.int .i64 k) oc nc (.slice a1 n1 c1) (.bool r) (.string ro) (.string rn) (.slice a2 n2 c2) (.slice a3 n3 c3) := ⟨rfl, lo, ln⟩
  exact ⟨h.range (p := [.int .i64 k]) (q := oc) rfl rfl, h.range (p := .int .i64 k :: oc) (q := nc) rfl (by simp [lo]), h.cell C.c0, h.cell (C.tl 0), h.cell (C.tl 1), h.cell (C.tl 2), h.cell (C.tl 3), h.cell (C.tl 4), h.cell (C.tl 5)⟩

theorem cat_empty (a b : ByteArray) : (a ++ b).toList.isEmpty = decide (a.size + b.size = 0) := by
  by_cases h : a.size + b.size = 0
  · rw [isEmpty_yes (by rw [ByteArray.size_append]; exact h), decide_eq_true h]
  · rw [isEmpty_no (by rw [ByteArray.size_append]; exact h), decide_eq_false h]

set_option maxRecDepth 100000 in
set_option maxHeartbeats 1000000 in
theorem ebare_any (x : E) (xc : List Value) (w : World) (hx : ER (frag w) x xc) (hz : x.ro.size + x.rn.size ≤ 9223372036854775807) :
    Calls Tryd.prog 28 #[.agg xc.toArray] w fun e w' => e = .returned (.bool x.bare) ∧ Below w.heap.size w w' := by
  have HO := Lib.hid (fun (wx : World) (hb : Below w.heap.size w wx) => eown_any x xc wx (hx.mono (below_le hb)))
  have HL := Lib.hid hx.shape.len
  have hb0 := Lib.hid ((Below.refl w.heap.size w).alloc (Nat.le_refl _) (.cells xc.toArray 32))
  clear hx
  rw [← Val.bare_own x]
  have Hz : Hid ((Val.ownE x).ro.size + (Val.ownE x).rn.size ≤ 9223372036854775807) := by
    show _ ≤ _
    obtain ⟨k, o, n, f, r, ro, rn, s, ks⟩ := x
    unfold Val.ownE
    simp only [Val.E.ro, Val.E.rn] at hz ⊢
    split
    · simp
    · exact hz
  clear hz
  generalize Val.ownE x = y at *
  go_enter Tryd.func28, Tryd.ntmps28
  go_wp2_with (first
    | (refine wpList_load_new rfl 32 _ rfl rfl _ Tryd.underlying32 rfl ?_ ?_; (· exact infoE.trans (congrArg some HL.out.symm))))
  refine (HO.out _ hb0.out).mono ?_
  rintro e w1 ⟨yc, rfl, hy, hb⟩
  have Hb1 := Lib.hid (hb0.out.trans (hb.mono hb0.out.size))
  have HL2 := Lib.hid hy.shape.len
  have HN2 := Lib.hid hy.shape.one
  clear hb HO
  obtain ⟨k, o, n, f, r, ro, rn, s, ks⟩ := y
  rw [ER] at hy
  obtain ⟨oc, nc, fv, sv, kv, fe, se, ke, hyc, hsz, ⟨h3, h4⟩, ⟨h5, h6, h7⟩, h8, h9, h10⟩ := hy
  obtain ⟨a1, c1, rfl, _⟩ := h5.len
  obtain ⟨a2, c2, rfl, _⟩ := h6.len
  obtain ⟨a3, c3, rfl, _⟩ := h7.len
  have hB : Val.bareAll (.mk k o n f r ro rn s ks) = (noneV o && (noneV n && (decide (fe.length = 0) && (!r && (decide (ro.size + rn.size = 0) && (decide (se.length = 0) && decide (ke.length = 0))))))) := by rw [h8.len, h9.len, h10.len]; rfl
  have HB := Lib.hid hB
  have hz : ¬ 9223372036854775807 < ro.size + rn.size := Nat.not_lt.2 Hz.out
  have HC := Lib.hid (cat_empty ro rn)
  have HS := Lib.hid (fun (w2 : World) (g : Nat) (hB : Blk w2 g yc) => EdAt.of h3.len h4.len (hyc ▸ hB))
  have HLo := Lib.hid h3.len
  have HLn := Lib.hid h4.len
  have HN := Lib.hid (fun (wx : World) (hb : Below w1.heap.size w1 wx) => enone_any o oc wx (h3.mono (below_le hb)))
  have HM := Lib.hid (fun (wx : World) (hb : Below w1.heap.size w1 wx) => enone_any n nc wx (h4.mono (below_le hb)))
  clear hyc h3 h4 h5 h6 h7 h8 h9 h10 hB hsz
  generalize fe.length = n1 at *
  generalize se.length = n2 at *
  generalize ke.length = n3 at *
  generalize noneV o = bo at *
  generalize noneV n = bn at *
  go_wp2_with (first
    | (refine wpList_store_lay rfl 32 _ _ rfl rfl _ rfl ?_ ?_ ?_ ?_; (· exact infoE.trans (congrArg some HL2.out.symm)); (· exact HL2.out.symm); (· exact HN2.out); (intro w2 hB2 hb2; have HB2 := Lib.hid hB2; have Hb2 := Lib.hid hb2; have hz2 := hB2.lt; obtain ⟨r1, r8, c0, c15, c16, c17, c18, c19, c20⟩ := HS.out w2 _ hB2; clear hB2 hb2))
    | (refine wpList_load_seg rfl 27 _ rfl _ _ rfl _ _ (by assumption) Tryd.underlying27 rfl ?_ ?_; (· first | exact infoV.trans (congrArg some HLo.out.symm) | exact infoV.trans (congrArg some HLn.out.symm))))
  refine (HN.out _ Hb2.out).mono ?_
  rintro e w3 ⟨rfl, hb3⟩
  have HB3 := Lib.hid (HB2.out.below hb3 hz2)
  have Hb13 := Lib.hid (Hb2.out.trans (hb3.mono Hb2.out.size))
  have Hb3 := Lib.hid (Hb1.out.trans (Hb13.out.mono Hb1.out.size))
  clear r1 r8 c0 c15 c16 c17 c18 c19 c20 hb3 hz2
  cases bo with
  | false =>
    go_wp2_with fail
    go_ret
    exact ⟨ret_bool (by rw [HB.out]; rfl), Hb3.out⟩
  | true =>
    have hz3 := HB3.out.lt
    obtain ⟨r1, r8, c0, c15, c16, c17, c18, c19, c20⟩ := HS.out w3 _ HB3.out
    go_wp2_with (refine wpList_load_seg rfl 27 _ rfl _ _ rfl _ _ (by assumption) Tryd.underlying27 rfl ?_ ?_; (· first | exact infoV.trans (congrArg some HLo.out.symm) | exact infoV.trans (congrArg some HLn.out.symm)))
    refine (HM.out _ Hb13.out).mono ?_
    rintro e w4 ⟨rfl, hb4⟩
    have HB4 := Lib.hid (HB3.out.below hb4 hz3)
    have Hb4 := Lib.hid (Hb3.out.trans (hb4.mono Hb3.out.size))
    clear r1 r8 c0 c15 c16 c17 c18 c19 c20 hb4 hz3
    cases bn with
    | false =>
      go_wp2_with fail
      go_ret
      exact ⟨ret_bool (by rw [HB.out]; rfl), Hb4.out⟩
    | true =>
      obtain ⟨r1, r8, c0, c15, c16, c17, c18, c19, c20⟩ := HS.out w4 _ HB4.out
      go_wp2_with fail
      all_goals
        go_ret
        refine ⟨ret_bool ?_, Hb4.out⟩
        rw [HB.out, ← HC.out]
        clear HB HC HM HN HS Hb4 HB4 Hb3 HB3 Hb13 Hb2 HB2 r1 r8 c0 c15 c16 c17 c18 c19 c20 HL HL2 HN2 HLo HLn Hz hz
        by_cases q1 : n1 = 0 <;> by_cases q2 : n2 = 0 <;> by_cases q3 : n3 = 0 <;> simp_all

end Go.Proofs.YtkldcjlkeblggaaDoor
