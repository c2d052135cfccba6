/- Package syntax, walked: what stands ahead of all else. -/
import Derived.Test.YtpcfdngnmigkfaaGreatDoorSxMessage
set_option linter.unusedVariables false
set_option linter.unusedSimpArgs false
namespace Go.Proofs.YtpcfdngnmigkfaaGreatDoor
open Go.RowKit
structure PAt (A : Nat → Addr) (p : Nat) (v : Value) (ts : List Lx.Tok) (w0 : World) (s : Sx.St) (w : World) : Prop where
 par : Par A p v ts s w
 env : Env A p v ts w
 kept : Kept [p] w0 w
theorem PAt.call {A : Nat → Addr} {p : Nat} {v : Value} {ts : List Lx.Tok} {w0 w w' : World} {s s' : Sx.St} (h : PAt A p v ts w0 s w) (hp : Par A p v ts s' w') (hk : Kept [p] w w') : PAt A p v ts w0 s' w' :=
 ⟨hp, h.env.kept hk h.par.lt (fun k hm => by rw [List.mem_singleton.1 hm]; exact Nat.le_refl _), h.kept.trans hk⟩
set_option maxHeartbeats 8000000 in
set_option maxRecDepth 100000 in
theorem head_any (A : Nat → Addr) (p : Nat) (v : Value) (ts : List Lx.Tok) (s : Sx.St) (w : World) (hE : Env A p v ts w) (hP : Par A p v ts s w) :
  Calls Tryz.prog 23 #[.pointer (some ⟨p, 0, none⟩)] w fun e w' => e = .returned (.string (toB (Sx.head ts s).1)) ∧ Par A p v ts (Sx.head ts s).2 w' ∧ Kept [p] w w' := by
 have H0 : Hid (PAt A p v ts w s w) := Yq ⟨hP, hE, Kept.refl _ _⟩
 have Hsm := Yq hE.small
 obtain ⟨R, hR⟩ : ∃ R, R = Sx.head ts s := ⟨_, rfl⟩
 rw [← hR]
 unfold Sx.head at hR
 have HM := Yq (must_any A p Sx.bSyntax v ts s w H0.out.env.vars H0.out.env.glt H0.out.par)
 obtain ⟨s2, hs2⟩ : ∃ z, z = Sx.sign ts 61 (Sx.must ts 1 Sx.bSyntax s) := ⟨_, rfl⟩
 rw [← hs2] at hR
 have HR := Yq hR
 have Hs2 := Yq hs2
 have hfk := field_kind
 clear hE hP hR hs2
 go_enter Tryz.func23, Tryz.ntmps23
 go_wp2_with fail
 refine HM.out.mono ?_
 rintro e w1 ⟨rfl, hp1, hk1⟩
 have H1 := Yq (H0.out.call hp1 hk1)
 clear hp1 hk1
 have HS := Yq (sign_any A p 61 v ts _ w1 H1.out.env.vars H1.out.env.glt H1.out.par)
 rw [← Hs2.out] at HS
 go_wp2_with fail
 refine HS.out.mono ?_
 rintro e w2 ⟨rfl, hp2, hk2⟩
 have H2 := Yq (H1.out.call hp2 hk2)
 clear hp2 hk2
 have HPk := Yq (peek_any A p v ts s2 w2 H2.out.par)
 obtain ⟨x, hx⟩ : ∃ z, z = Sx.peek ts s2 := ⟨_, rfl⟩
 rw [← hx] at HPk
 have HV : Hid (Sx.headV ts s2 = if x.kind = 3 ∧ x.text = Sx.bProto3 then s2 else Sx.fail ts s2) := Yq (by unfold Sx.headV; rw [← hx])
 clear hx
 go_upto_region 4 with (first
  | (go_at_call 48; (with_reducible refine HPk.out.mono ?_); rintro e w3 ⟨rfl, hb3⟩)
  | (refine wpList_alloc_lay rfl 80 rfl zT zeroT ?_; (intro w4 g5 hg5 hB5 hb4))
  | (refine wpList_store_all rfl 80 _ _ rfl g5 (tC x) rfl rfl zT hB5 infoT rfl (one_tC x) ?_; (intro w5 hB6 hgr5; have hb5 := hb3.trans ((Below.grown hb4 hgr5 hb4.size (fun _ e => by cases e; exact hg5)).mono hb3.size); clear hb4 hgr5 hB5 hb3)))
 have H5 := Yq (H2.out.call (H2.out.par.below hb5) (Kept.of_below hb5))
 have c0 : w5.cell? ⟨g5, 0, none⟩ = some (.int .i64 x.kind) := hB6.cell (o := 0) rfl
 have c1 : w5.cell? ⟨g5, 1, none⟩ = some (.string (toB x.text)) := hB6.cell (o := 1) rfl
 clear hB6 hb5 hg5
 have hmain : ∃ w6 : World, True := ⟨w5, trivial⟩
 by_cases hk : x.kind = 3
 ·have hz : ((x.kind : Nat) : Int) = 3 := by rw [hk]; rfl
  rw [hz] at c0
  by_cases ht : x.text = Sx.bProto3
  ·have hbq : ((toB x.text).toList == ([112, 114, 111, 116, 111, 51] : List UInt8)) = true := by rw [Lib.toList_data, toB_list, ht]; rfl
   have HV2 : Hid (Sx.headV ts s2 = s2) := Yq (by rw [HV.out, if_pos ⟨hk, ht⟩])
   clear hk hz ht HV hmain
   replace HR := HR.out
   rw [HV2.out] at HR
   have HR := Yq HR
   have HO := Yq (of_any A p 3 (by decide) v ts s2 w5 H5.out.env.vars H5.out.par)
   obtain ⟨s7, hs7⟩ : ∃ z, z = (Sx.of ts 3 s2).2 := ⟨_, rfl⟩
   rw [← hs7] at HO
   replace HR := HR.out
   rw [← hs7] at HR
   replace HR := Yq HR
   clear hs7
   go_wp2_with fail
   refine HO.out.mono ?_
   rintro e w7 ⟨rfl, hp7, hk7⟩
   have H7 := Yq (H5.out.call hp7 hk7)
   clear hp7 hk7
   have HS7 := Yq (sign_any A p 59 v ts s7 w7 H7.out.env.vars H7.out.env.glt H7.out.par)
   obtain ⟨s8, hs8⟩ : ∃ z, z = Sx.sign ts 59 s7 := ⟨_, rfl⟩
   rw [← hs8] at HS7
   replace HR := HR.out
   rw [← hs8] at HR
   replace HR := Yq HR
   clear hs8
   go_wp2_with fail
   refine HS7.out.mono ?_
   rintro e w8 ⟨rfl, hp8, hk8⟩
   have H8 := Yq (H7.out.call hp8 hk8)
   clear hp8 hk8
   have HW := Yq (pword_any A p v ts s8 Sx.bPackage w8 H8.out.par)
   unfold Sx.takes at HW
   cases hs : Sx.sees ts 1 Sx.bPackage s8
   ·rw [hs] at HW
    simp only [↓reduceIte, Bool.false_eq_true] at HW
    have HEnd : Hid (R = ([], s8)) := Yq (by have h1 := HR.out; rw [h1, hs]; rfl)
    clear hs
    go_wp2_with fail
    refine HW.out.mono ?_
    rintro e w9 ⟨rfl, hp9, hk9⟩
    have H9 := Yq (H8.out.call hp9 hk9)
    clear hp9 hk9
    go_wp2_with fail
    go_ret
    rw [HEnd.out]
    exact ⟨rfl, H9.out.par, H9.out.kept⟩
   ·rw [hs] at HW
    simp only [↓reduceIte, Bool.false_eq_true] at HW
    have HEnd : Hid (R = ((Sx.dotted ts s8.next).1, Sx.sign ts 59 (Sx.dotted ts s8.next).2)) := Yq (by have h1 := HR.out; rw [h1, hs]; rfl)
    clear hs
    go_wp2_with fail
    refine HW.out.mono ?_
    rintro e w9 ⟨rfl, hp9, hk9⟩
    have H9 := Yq (H8.out.call hp9 hk9)
    clear hp9 hk9
    have HD := Yq (dotted_any A p v ts Hsm.out s8.next w9 H9.out.env.vars H9.out.env.glt H9.out.par)
    go_wp2_with fail
    refine HD.out.mono ?_
    rintro e w10 ⟨rfl, hp10, hk10⟩
    have H10 := Yq (H9.out.call hp10 hk10)
    clear hp10 hk10
    have HS9 := Yq (sign_any A p 59 v ts _ w10 H10.out.env.vars H10.out.env.glt H10.out.par)
    go_wp2_with fail
    refine HS9.out.mono ?_
    rintro e w11 ⟨rfl, hp11, hk11⟩
    have H11 := Yq (H10.out.call hp11 hk11)
    clear hp11 hk11
    go_wp2_with fail
    go_ret
    rw [HEnd.out]
    exact ⟨rfl, H11.out.par, H11.out.kept⟩
  ·have hbq : ((toB x.text).toList == ([112, 114, 111, 116, 111, 51] : List UInt8)) = false := by rw [Lib.toList_data, toB_list]; exact beq_eq_false_iff_ne.2 ht
   have HV2 : Hid (Sx.headV ts s2 = Sx.fail ts s2) := Yq (by rw [HV.out, if_neg (fun e => ht e.2)])
   have HF := Yq (fail_any A p v ts s2 w5 H5.out.env.vars H5.out.par)
   clear hk hz ht HV hmain
   go_wp2_with fail
   refine HF.out.mono ?_
   rintro e w6 ⟨rfl, hp6, hk6⟩
   have H6 := Yq (H5.out.call hp6 hk6)
   clear hp6 hk6 c0 c1
   replace HR := HR.out
   rw [HV2.out] at HR
   have HR := Yq HR
   have HO := Yq (of_any A p 3 (by decide) v ts (Sx.fail ts s2) w6 H6.out.env.vars H6.out.par)
   obtain ⟨s7, hs7⟩ : ∃ z, z = (Sx.of ts 3 (Sx.fail ts s2)).2 := ⟨_, rfl⟩
   rw [← hs7] at HO
   replace HR := HR.out
   rw [← hs7] at HR
   replace HR := Yq HR
   clear hs7
   go_wp2_with fail
   refine HO.out.mono ?_
   rintro e w7 ⟨rfl, hp7, hk7⟩
   have H7 := Yq (H6.out.call hp7 hk7)
   clear hp7 hk7
   have HS7 := Yq (sign_any A p 59 v ts s7 w7 H7.out.env.vars H7.out.env.glt H7.out.par)
   obtain ⟨s8, hs8⟩ : ∃ z, z = Sx.sign ts 59 s7 := ⟨_, rfl⟩
   rw [← hs8] at HS7
   replace HR := HR.out
   rw [← hs8] at HR
   replace HR := Yq HR
   clear hs8
   go_wp2_with fail
   refine HS7.out.mono ?_
   rintro e w8 ⟨rfl, hp8, hk8⟩
   have H8 := Yq (H7.out.call hp8 hk8)
   clear hp8 hk8
   have HW := Yq (pword_any A p v ts s8 Sx.bPackage w8 H8.out.par)
   unfold Sx.takes at HW
   cases hs : Sx.sees ts 1 Sx.bPackage s8
   ·rw [hs] at HW
    simp only [↓reduceIte, Bool.false_eq_true] at HW
    have HEnd : Hid (R = ([], s8)) := Yq (by have h1 := HR.out; rw [h1, hs]; rfl)
    clear hs
    go_wp2_with fail
    refine HW.out.mono ?_
    rintro e w9 ⟨rfl, hp9, hk9⟩
    have H9 := Yq (H8.out.call hp9 hk9)
    clear hp9 hk9
    go_wp2_with fail
    go_ret
    rw [HEnd.out]
    exact ⟨rfl, H9.out.par, H9.out.kept⟩
   ·rw [hs] at HW
    simp only [↓reduceIte, Bool.false_eq_true] at HW
    have HEnd : Hid (R = ((Sx.dotted ts s8.next).1, Sx.sign ts 59 (Sx.dotted ts s8.next).2)) := Yq (by have h1 := HR.out; rw [h1, hs]; rfl)
    clear hs
    go_wp2_with fail
    refine HW.out.mono ?_
    rintro e w9 ⟨rfl, hp9, hk9⟩
    have H9 := Yq (H8.out.call hp9 hk9)
    clear hp9 hk9
    have HD := Yq (dotted_any A p v ts Hsm.out s8.next w9 H9.out.env.vars H9.out.env.glt H9.out.par)
    go_wp2_with fail
    refine HD.out.mono ?_
    rintro e w10 ⟨rfl, hp10, hk10⟩
    have H10 := Yq (H9.out.call hp10 hk10)
    clear hp10 hk10
    have HS9 := Yq (sign_any A p 59 v ts _ w10 H10.out.env.vars H10.out.env.glt H10.out.par)
    go_wp2_with fail
    refine HS9.out.mono ?_
    rintro e w11 ⟨rfl, hp11, hk11⟩
    have H11 := Yq (H10.out.call hp11 hk11)
    clear hp11 hk11
    go_wp2_with fail
    go_ret
    rw [HEnd.out]
    exact ⟨rfl, H11.out.par, H11.out.kept⟩
 ·have hz : ¬ ((x.kind : Nat) : Int) = 3 := by omega
  have hz2 : (((x.kind : Nat) : Int) == 3) = false := beq_eq_false_iff_ne.2 hz
  have HV2 : Hid (Sx.headV ts s2 = Sx.fail ts s2) := Yq (by rw [HV.out, if_neg (fun e => hk e.1)])
  have HF := Yq (fail_any A p v ts s2 w5 H5.out.env.vars H5.out.par)
  clear hk HV hmain
  go_wp2_with fail
  refine HF.out.mono ?_
  rintro e w6 ⟨rfl, hp6, hk6⟩
  have H6 := Yq (H5.out.call hp6 hk6)
  clear hp6 hk6 c0 c1 hz hz2
  replace HR := HR.out
  rw [HV2.out] at HR
  have HR := Yq HR
  have HO := Yq (of_any A p 3 (by decide) v ts (Sx.fail ts s2) w6 H6.out.env.vars H6.out.par)
  obtain ⟨s7, hs7⟩ : ∃ z, z = (Sx.of ts 3 (Sx.fail ts s2)).2 := ⟨_, rfl⟩
  rw [← hs7] at HO
  replace HR := HR.out
  rw [← hs7] at HR
  replace HR := Yq HR
  clear hs7
  go_wp2_with fail
  refine HO.out.mono ?_
  rintro e w7 ⟨rfl, hp7, hk7⟩
  have H7 := Yq (H6.out.call hp7 hk7)
  clear hp7 hk7
  have HS7 := Yq (sign_any A p 59 v ts s7 w7 H7.out.env.vars H7.out.env.glt H7.out.par)
  obtain ⟨s8, hs8⟩ : ∃ z, z = Sx.sign ts 59 s7 := ⟨_, rfl⟩
  rw [← hs8] at HS7
  replace HR := HR.out
  rw [← hs8] at HR
  replace HR := Yq HR
  clear hs8
  go_wp2_with fail
  refine HS7.out.mono ?_
  rintro e w8 ⟨rfl, hp8, hk8⟩
  have H8 := Yq (H7.out.call hp8 hk8)
  clear hp8 hk8
  have HW := Yq (pword_any A p v ts s8 Sx.bPackage w8 H8.out.par)
  unfold Sx.takes at HW
  cases hs : Sx.sees ts 1 Sx.bPackage s8
  ·rw [hs] at HW
   simp only [↓reduceIte, Bool.false_eq_true] at HW
   have HEnd : Hid (R = ([], s8)) := Yq (by have h1 := HR.out; rw [h1, hs]; rfl)
   clear hs
   go_wp2_with fail
   refine HW.out.mono ?_
   rintro e w9 ⟨rfl, hp9, hk9⟩
   have H9 := Yq (H8.out.call hp9 hk9)
   clear hp9 hk9
   go_wp2_with fail
   go_ret
   rw [HEnd.out]
   exact ⟨rfl, H9.out.par, H9.out.kept⟩
  ·rw [hs] at HW
   simp only [↓reduceIte, Bool.false_eq_true] at HW
   have HEnd : Hid (R = ((Sx.dotted ts s8.next).1, Sx.sign ts 59 (Sx.dotted ts s8.next).2)) := Yq (by have h1 := HR.out; rw [h1, hs]; rfl)
   clear hs
   go_wp2_with fail
   refine HW.out.mono ?_
   rintro e w9 ⟨rfl, hp9, hk9⟩
   have H9 := Yq (H8.out.call hp9 hk9)
   clear hp9 hk9
   have HD := Yq (dotted_any A p v ts Hsm.out s8.next w9 H9.out.env.vars H9.out.env.glt H9.out.par)
   go_wp2_with fail
   refine HD.out.mono ?_
   rintro e w10 ⟨rfl, hp10, hk10⟩
   have H10 := Yq (H9.out.call hp10 hk10)
   clear hp10 hk10
   have HS9 := Yq (sign_any A p 59 v ts _ w10 H10.out.env.vars H10.out.env.glt H10.out.par)
   go_wp2_with fail
   refine HS9.out.mono ?_
   rintro e w11 ⟨rfl, hp11, hk11⟩
   have H11 := Yq (H10.out.call hp11 hk11)
   clear hp11 hk11
   go_wp2_with fail
   go_ret
   rw [HEnd.out]
   exact ⟨rfl, H11.out.par, H11.out.kept⟩
end Go.Proofs.YtpcfdngnmigkfaaGreatDoor
