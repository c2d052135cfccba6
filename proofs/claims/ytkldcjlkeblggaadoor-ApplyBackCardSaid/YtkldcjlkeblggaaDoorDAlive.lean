/- law23.alive, walked. -/
import Derived.Test.YtkldcjlkeblggaaDoorDVal
import Derived.Test.YtkldcjlkeblggaaDoorGreat21
namespace Go.Proofs.YtkldcjlkeblggaaDoor
open Go.RowKit
open Val (V E cmp right eright esm v0 Res ado vmx esz gr ge)
set_option linter.unusedVariables false
set_option linter.unusedSimpArgs false

def one1 : V := .mk 1 1 ByteArray.empty [] ByteArray.empty [] []
def oneC : List Value := [.int .i64 1, .int .u64 1, .string ⟨#[]⟩, .slice none 0 0, .string ⟨#[]⟩, .slice none 0 0, .slice none 0 0]
def edE : E := .mk 1 v0 one1 [] false ByteArray.empty ByteArray.empty [] []
def edC : List Value := .int .i64 1 :: (zV ++ (oneC ++ [.slice none 0 0, .bool false, .string ⟨#[]⟩, .string ⟨#[]⟩, .slice none 0 0, .slice none 0 0]))
theorem one_any (h : Frag) : VR h one1 oneC := by
  unfold one1; rw [VR]
  exact ⟨_, _, _, [], [], [], rfl, ⟨by decide, by decide⟩, ⟨FlatC.nil 8 h, FlatC.nil 7 h, FlatC.nil 14 h⟩, by rw [FsR], by rw [LsR], by rw [PsR]⟩
theorem ed_any (h : Frag) : ER h edE edC := by
  unfold edE; rw [ER]
  exact ⟨zV, oneC, _, _, _, [], [], [], rfl, ⟨by decide, by decide⟩, ⟨v0_any h, one_any h⟩, ⟨FlatC.nil 22 h, FlatC.nil 30 h, FlatC.nil 28 h⟩, by rw [EFs], by rw [ESs], by rw [EKs]⟩
theorem right0 : right v0 = true := by unfold v0; rw [right]; simp [Val.bareV]
theorem right1 : right one1 = true := by unfold one1; rw [right]; simp [Val.bareV]
theorem cmp01 : ¬ cmp v0 one1 = 0 := by unfold v0 one1; rw [cmp]; decide
theorem edRight : eright edE = true := by
  unfold edE; rw [eright]
  simp [Val.bareE, right0, right1, cmp01]
theorem ed_esm : esm edE := by unfold edE; rw [esm]; exact ⟨⟨by decide, by decide⟩, by rw [Val.esmF]; trivial, by rw [Val.esmS]; trivial, by rw [Val.esmK]; trivial⟩
theorem ed_esz : esz edE = 0 := by unfold edE one1 v0; rw [esz, vmx, vmx]; simp [Val.vmxF, Val.vmxL, Val.vmxP, Val.eszF, Val.eszS, Val.eszK]
theorem one_vmx : vmx one1 = 0 := by unfold one1; rw [vmx]; simp [Val.vmxF, Val.vmxL, Val.vmxP]
theorem cmp00 : cmp v0 v0 = 0 := by unfold v0; rw [cmp]; decide
theorem cmp11 : cmp one1 one1 = 0 := by unfold one1; rw [cmp]; decide
theorem ed_does : Val.avalue edE v0 = .ok one1 := by
  unfold Val.avalue
  rw [if_pos ⟨edRight, right0⟩]
  unfold edE; rw [ado]; simp [cmp00]
theorem ed_not : Val.avalue edE one1 = .bad 13 := by
  unfold Val.avalue
  rw [if_pos ⟨edRight, right1⟩]
  unfold edE; rw [ado]; simp [cmp01]
theorem one7C : ∀ u ∈ oneC, u.oneCell' = true := by simp [oneC, Value.oneCell']
theorem edC1 : ∀ u ∈ edC, u.oneCell' = true := by simp [edC, oneC, zV, Value.oneCell']

theorem range_grown {w w' : World} {b o g : Nat} {cs : List Value} (h : w.rangeAt b o cs) (hg : w.grownBy w' (some g)) (hne : b ≠ g) : w'.rangeAt b o cs := fun j v hj => by
  have h1 := h j v hj
  have h2 := World.block_lt_of_cell? w _ h1
  unfold World.cell? at h1 ⊢
  rw [hg.block b h2 (fun e => by cases e; exact hne rfl)]
  exact h1

set_option maxRecDepth 100000 in
set_option maxHeartbeats 4000000 in
theorem alive_any (er : Errs) (w : World) (he : ErrsAt er w) :
    Calls Tryd.prog 5 #[] w fun e w' => e = .returned (.bool true) ∧ Below w.heap.size w w' := by
  have HV := Lib.hid (fun (wx : World) (hb : Below w.heap.size w wx) => value_any er [] edE v0 edC zV wx (fun _ h => by cases h) ed_esm (by rw [ed_esz, Val.vmx_v0]; decide) (he.keep hb) (ed_any _) (v0_any _))
  rw [ed_does] at HV
  have HF := Lib.hid (fun (wx : World) (hb : Below w.heap.size w wx) => fits_any er [] edE one1 edC oneC wx (fun _ h => by cases h) ed_esm (by rw [ed_esz, one_vmx]; decide) (he.keep hb) (ed_any _) (one_any _))
  rw [ed_not] at HF
  clear he
  go_enter Tryd.func5, Tryd.ntmps5
  go_upto_region 3 with ((first
    | (refine wpList_alloc_lay rfl 27 rfl zV zeroV ?_; (intro w1 g1 hg1 hB1 hb1))
    | (refine wpList_store_all rfl 27 _ _ rfl g1 oneC rfl rfl zV hB1 infoV rfl one7C ?_; (intro w2 hB2 hgr2; have hb2 := Below.grown hb1 hgr2 hb1.size (fun _ e => by cases e; exact hg1); have r1 := hB2.whole; clear hb1 hgr2 hB1))
    | (refine wpList_load_seg rfl 27 _ rfl _ _ rfl _ _ r1 Tryd.underlying27 rfl infoV ?_)
    | (refine wpList_alloc_lay rfl 32 rfl zE zeroE ?_; (intro w3 g3 hg3 hB3 hb3; clear r1; replace hB2 := hB2.below hb3 hB2.lt; replace hg3 := Nat.le_trans hb2.size hg3; replace hb2 := hb2.trans (hb3.mono hb2.size); clear hb3))
    | (refine wpList_store_all rfl 32 _ _ rfl g3 edC rfl rfl zE hB3 infoE rfl edC1 ?_; (intro w4 hB4 hgr4; have hne : g1 ≠ g3 := fun e => (by subst e; obtain ⟨t1, h1⟩ := hB2; obtain ⟨t2, h2⟩ := hB3; rw [h1] at h2; cases h2); replace hB2 := hB2.grown hgr4 (fun e => by cases e; exact hne rfl); replace hb2 := Below.grown hb2 hgr4 hb2.size (fun _ e => by cases e; exact hg3); have r4 := hB4.whole; have r1 := hB2.whole; clear hgr4 hB3))))
  have hl1 := hB2.lt
  have hl4 := hB4.lt
  have Hb2 := Lib.hid hb2
  clear hb2 hB2 hB4
  go_wp2_with (first
    | (refine wpList_load_seg rfl 32 _ rfl _ _ rfl _ _ r4 Tryd.underlying32 rfl infoE ?_)
    | (refine wpList_load_seg rfl 27 _ rfl _ _ rfl _ _ r1 Tryd.underlying27 rfl infoV ?_)
    | (refine wpList_load_seg rfl 27 _ rfl _ _ rfl _ _ r7 Tryd.underlying27 rfl ?_ ?_; (· exact infoV.trans (congrArg some Hcl.out.symm)))
    | (go_at_call 8; (refine (HV.out _ Hb2.out).mono ?_); rintro e w5 ⟨hb5, xc, rfl, hx⟩; have HX := Lib.hid hx; have Hcl := Lib.hid hx.len; have Hc1 := Lib.hid hx.shape.one; have Hb5 : Hid (Below w.heap.size w w5) := Hb2.out.trans (hb5.mono Hb2.out.size); replace r1 := range_below r1 hb5 hl1; replace r4 := range_below r4 hb5 hl4; have hl1' := Nat.lt_of_lt_of_le hl1 hb5.size; have hl4' := Nat.lt_of_lt_of_le hl4 hb5.size; clear hb5 hx hl1 hl4)
    | (refine wpList_alloc_lay rfl 27 rfl zV zeroV ?_; (intro w6 g6 hg6 hB6 hb6; have Hb6 : Hid (Below w.heap.size w w6) := Hb5.out.trans (hb6.mono Hb5.out.size); have Hx6 := Lib.hid (HX.out.mono (belowE (E' := [some g6]) hb6 (fun k hk => by simp only [List.mem_singleton, Option.some.injEq] at hk; right; omega))); have Hg6 : Hid (w.heap.size ≤ g6 ∧ g1 ≠ g6 ∧ g3 ≠ g6) := ⟨Nat.le_trans Hb5.out.size hg6, by omega, by omega⟩; replace r1 := range_below r1 hb6 hl1'; replace r4 := range_below r4 hb6 hl4'; have Hlt6 : Hid (g1 < w6.heap.size ∧ g3 < w6.heap.size) := ⟨Nat.lt_of_lt_of_le hl1' hb6.size, Nat.lt_of_lt_of_le hl4' hb6.size⟩; clear hb6 hl1' hl4' hg6))
    | (refine wpList_store_all rfl 27 _ _ rfl g6 xc rfl rfl zV hB6 ?_ ?_ ?_ ?_; (· exact infoV.trans (congrArg some Hcl.out.symm)); (· exact Hcl.out); (· exact Hc1.out); (intro w7 hB7 hgr7; have HX7 := Lib.hid ((Hx6.out.mono (grownE (E' := [some g6]) hgr7 (.inr (by simp)) (fun _ h => .inl h))).mono (fragE_le _ _)); have Hb7 : Hid (Below w.heap.size w w7) := Below.grown Hb6.out hgr7 Hb6.out.size (fun _ e => by cases e; exact Hg6.out.1); have r7 := hB7.whole; have Hlt : Hid (g1 < w7.heap.size ∧ g3 < w7.heap.size) := ⟨Nat.lt_of_lt_of_le Hlt6.out.1 hgr7.size, Nat.lt_of_lt_of_le Hlt6.out.2 hgr7.size⟩; replace r1 : w7.rangeAt g1 0 oneC := (fun j v hj => (range_grown r1 hgr7 Hg6.out.2.1) j v hj); replace r4 : w7.rangeAt g3 0 edC := (fun j v hj => (range_grown r4 hgr7 Hg6.out.2.2) j v hj); clear hgr7 hB6 hB7))
    | (go_at_call 9; (with_reducible refine (same_any one1 one1 xc oneC w7 HX7.out (one_any _)).mono ?_); rintro e w8 ⟨rfl, hb8⟩; have Hb8 : Hid (Below w.heap.size w w8) := Hb7.out.trans (hb8.mono Hb7.out.size); replace r1 := range_below r1 hb8 Hlt.out.1; replace r4 := range_below r4 hb8 Hlt.out.2; rw [decide_eq_true cmp11]; clear hb8 r7)
    | (go_at_call 12; (refine (HF.out _ Hb8.out).mono ?_); rintro e w9 ⟨rfl, hb9⟩; have Hb9 : Hid (Below w.heap.size w w9) := Hb8.out.trans (hb9.mono Hb8.out.size); clear hb9 r1 r4))
  go_ret
  exact ⟨rfl, Hb9.out⟩

end Go.Proofs.YtkldcjlkeblggaaDoor
