/- Package syntax, walked: one option of a field. Package syntax, walked: a field's name, number and options. Package syntax, walked: fields, maps. Package syntax, walked: an enum's value. -/
import Derived.Test.YtpcfdngnmigkfaaGreatDoorSxEnv
import Derived.Test.YtpcfdngnmigkfaaGreatDoorGroupB
import Derived.Test.YtpcfdngnmigkfaaGreatDoorGroupA
set_option linter.unusedVariables false
set_option linter.unusedSimpArgs false
namespace Go.Proofs.YtpcfdngnmigkfaaGreatDoor
open Go.RowKit
structure FAt (A : Nat → Addr) (p g : Nat) (v : Value) (ts : List Lx.Tok) (w0 : World) (s : Sx.St) (f : Sx.Fld) (w : World) : Prop where
 par : Par A p v ts s w
 env : Env A p v ts w
 blk : Blk w g (fC f)
 kept : Kept [p, g] w0 w
 lt : p < g
theorem FAt.call {A : Nat → Addr} {p g : Nat} {v : Value} {ts : List Lx.Tok} {w0 w w' : World} {s s' : Sx.St} {f : Sx.Fld} (h : FAt A p g v ts w0 s f w) (hp : Par A p v ts s' w') (hk : Kept [p] w w') : FAt A p g v ts w0 s' f w' :=
 ⟨hp, h.env.kept hk h.par.lt (fun k hm => by rw [List.mem_singleton.1 hm]; exact Nat.le_refl _), hk.blk h.blk (by have := h.lt; simp; omega), h.kept.trans (hk.mono (fun k hm _ => by rw [List.mem_singleton.1 hm]; simp)), h.lt⟩
theorem FAt.wrote {A : Nat → Addr} {p g : Nat} {v : Value} {ts : List Lx.Tok} {w0 w w' : World} {s : Sx.St} {f f' : Sx.Fld} (h : FAt A p g v ts w0 s f w) (hB : Blk w' g (fC f')) (hg : w.grownBy w' (some g)) : FAt A p g v ts w0 s f' w' :=
 have h1 := Par.wrote h.env h.par h.blk (by rw [fC_len]; decide) hg h.lt
 ⟨h1.1, h1.2, hB, h.kept.trans (Kept.of_grown hg (by simp)), h.lt⟩
theorem empty_beq (a : Lx.Bs) : ((toB a).toList == (⟨#[]⟩ : ByteArray).toList) = decide (a = []) := toB_beq a []
theorem info_int1 : (Tryz.prog.info? 3).map (·.size) = some 1 := by kernel_rfl
theorem info_str1 : (Tryz.prog.info? 9).map (·.size) = some 1 := by kernel_rfl
theorem opt_packed {ts : List Lx.Tok} {f : Sx.Fld} {s : Sx.St} (h : f.packed = 0) (hs : Sx.sees ts 1 Sx.bPacked s = true) : Sx.option ts f s =
  if Sx.sees ts 1 Sx.bTrue (Sx.sign ts 61 s.next) then ({ f with packed := 1 }, (Sx.sign ts 61 s.next).next) else ({ f with packed := 2 }, Sx.must ts 1 Sx.bFalse (Sx.sign ts 61 s.next)) := by
 unfold Sx.option; rw [if_pos ⟨h, hs⟩]
theorem opt_key {ts : List Lx.Tok} {f : Sx.Fld} {s : Sx.St} (h : ¬ (f.packed = 0 ∧ Sx.sees ts 1 Sx.bPacked s = true)) (h2 : f.key = []) (hs : Sx.sees ts 1 Sx.bKey s = true) : Sx.option ts f s = ({ f with key := (Sx.of ts 1 (Sx.sign ts 61 s.next)).1.text }, (Sx.of ts 1 (Sx.sign ts 61 s.next)).2) := by
 unfold Sx.option; rw [if_neg h, if_pos ⟨h2, hs⟩]
theorem opt_none {ts : List Lx.Tok} {f : Sx.Fld} {s : Sx.St} (h : ¬ (f.packed = 0 ∧ Sx.sees ts 1 Sx.bPacked s = true)) (h2 : ¬ (f.key = [] ∧ Sx.sees ts 1 Sx.bKey s = true)) : Sx.option ts f s = (f, Sx.fail ts s) := by
 unfold Sx.option; rw [if_neg h, if_neg h2]
set_option maxHeartbeats 4000000 in
set_option maxRecDepth 100000 in
theorem option_any (A : Nat → Addr) (p g : Nat) (v : Value) (ts : List Lx.Tok) (s : Sx.St) (f : Sx.Fld) (w w0 : World) (h : FAt A p g v ts w0 s f w) :
  Calls Tryz.prog 110 #[.pointer (some ⟨p, 0, none⟩), .pointer (some ⟨g, 0, none⟩)] w fun e w' => e = .returned (.tuple #[]) ∧ FAt A p g v ts w0 (Sx.option ts f s).2 (Sx.option ts f s).1 w' := by
 have H := Yq h
 have Hfl := Yq (fun s1 w1 (h1 : FAt A p g v ts w0 s1 f w1) => fail_any A p v ts s1 w1 h1.env.vars h1.par)
 have Hs := Yq (fun s1 w1 (h1 : FAt A p g v ts w0 s1 f w1) => sign_any A p 61 v ts s1 w1 h1.env.vars h1.env.glt h1.par)
 have Hn := Yq (fun s1 w1 (h1 : FAt A p g v ts w0 s1 f w1) => name_arr A p v ts s1 w1 h1.env.vars h1.par)
 have Hm := Yq (fun s1 w1 f1 (h1 : FAt A p g v ts w0 s1 f1 w1) => must_any A p Sx.bFalse v ts s1 w1 h1.env.vars h1.env.glt h1.par)
 have Hw := Yq (fun s1 w1 f1 t (h1 : FAt A p g v ts w0 s1 f1 w1) => pword_any A p v ts s1 t w1 h1.par)
 have hfd := field_text
 have c6 : w.cell? ⟨g, 6, none⟩ = some (.int .i64 f.packed) := h.blk.cell (o := 6) rfl
 have c3 : w.cell? ⟨g, 3, none⟩ = some (.string (toB f.key)) := h.blk.cell (o := 3) rfl
 clear h
 have hw0 : ∀ s1 t, Sx.takes ts 1 t s1 = if Sx.sees ts 1 t s1 then (true, s1.next) else (false, s1) := fun _ _ => rfl
 by_cases hpk : f.packed = 0
 ·have HW := Yq (Hw.out s w f Sx.bPacked H.out)
  rw [hw0] at HW
  replace c6 : w.cell? ⟨g, 6, none⟩ = some (.int .i64 0) := by rw [hpk] at c6; exact c6
  cases hs : Sx.sees ts 1 Sx.bPacked s
  ·have hno : ¬ (f.packed = 0 ∧ Sx.sees ts 1 Sx.bPacked s = true) := fun e => by rw [hs] at e; exact absurd e.2 (by decide)
   rw [hs] at HW
   simp only [↓reduceIte, Bool.false_eq_true] at HW
   clear hs c3
   go_enter Tryz.func110, Tryz.ntmps110
   go_wp2_with fail
   refine HW.out.mono ?_
   rintro e w1 ⟨rfl, hp1, hk1⟩
   have H1 := Yq (H.out.call hp1 hk1)
   clear hp1 hk1 c6
   have c3 : w1.cell? ⟨g, 3, none⟩ = some (.string (toB f.key)) := H1.out.blk.cell (o := 3) rfl
   by_cases hk : f.key = []
   ·replace c3 : w1.cell? ⟨g, 3, none⟩ = some (.string ⟨#[]⟩) := by rw [hk] at c3; exact c3
    have HK := Yq (Hw.out s w1 f Sx.bKey H1.out)
    rw [hw0] at HK
    cases hs2 : Sx.sees ts 1 Sx.bKey s
    ·rw [hs2] at HK
     simp only [↓reduceIte, Bool.false_eq_true] at HK
     have HO := Yq (opt_none hno (fun e => by rw [hs2] at e; exact absurd e.2 (by decide)))
     clear hs2 hw0 hno
     go_wp2_with fail
     refine HK.out.mono ?_
     rintro e w7 ⟨rfl, hp7, hk7⟩
     have H7 := Yq (H1.out.call hp7 hk7)
     clear hp7 hk7 c3
     have HF := Yq (Hfl.out _ w7 H7.out)
     go_wp2_with fail
     refine HF.out.mono ?_
     rintro e w8 ⟨rfl, hp8, hk8⟩
     have H8 := Yq (H7.out.call hp8 hk8)
     clear hp8 hk8
     go_wp2_with fail
     go_end0
     rw [HO.out]; exact ⟨rfl, H8.out⟩
    ·rw [hs2] at HK
     simp only [↓reduceIte, Bool.false_eq_true] at HK
     have HO := Yq (opt_key hno hk hs2)
     clear hs2 hw0 hno
     go_wp2_with fail
     refine HK.out.mono ?_
     rintro e w7 ⟨rfl, hp7, hk7⟩
     have H7 := Yq (H1.out.call hp7 hk7)
     clear hp7 hk7 c3
     have HS := Yq (Hs.out _ w7 H7.out)
     go_wp2_with fail
     refine HS.out.mono ?_
     rintro e w8 ⟨rfl, hp8, hk8⟩
     have H8 := Yq (H7.out.call hp8 hk8)
     clear hp8 hk8
     have HN := Yq (Hn.out _ w8 H8.out)
     generalize Sx.of ts 1 (Sx.sign ts 61 s.next) = r at *
     obtain ⟨x, s9⟩ := r
     go_wp2_with fail
     refine HN.out.mono ?_
     rintro e w9 ⟨rfl, hp9, hk9⟩
     have H9 := Yq (H8.out.call hp9 hk9)
     clear hp9 hk9
     have HB9 := H9.out.blk
     go_wp2_with (first
      | (refine wpList_store_blk1 rfl 9 _ _ rfl g 3 (.string (toB x.text)) rfl rfl _ HB9 info_str1 ?_ rfl ?_; (· show 3 + 1 ≤ 10; decide); (intro w10 hB10 hgr hsz)))
     have H10 : Hid (FAt A p g v ts w0 _ { f with key := x.text } w10) := H9.out.wrote hB10 hgr
     go_end0
     rw [HO.out]; exact ⟨rfl, H10.out⟩
   ·have HO := Yq (opt_none hno (fun e => hk e.1))
    have hke := empty_beq f.key
    rw [decide_eq_false hk] at hke
    have hke2 : ((toB f.key).toList == []) = false := by rw [show (⟨#[]⟩ : ByteArray).toList = [] from by rw [Lib.toList_data]] at hke; exact hke
    have HF := Yq (Hfl.out _ w1 H1.out)
    clear hk hw0 hno Hw Hm Hn Hs
    go_wp2_with fail
    refine HF.out.mono ?_
    rintro e w8 ⟨rfl, hp8, hk8⟩
    have H8 := Yq (H1.out.call hp8 hk8)
    clear hp8 hk8
    go_wp2_with fail
    go_end0
    rw [HO.out]; exact ⟨rfl, H8.out⟩
  ·have HO := Yq (opt_packed hpk hs)
   rw [hs] at HW
   simp only [↓reduceIte, Bool.false_eq_true] at HW
   have hw1 := hw0 (Sx.sign ts 61 s.next) Sx.bTrue
   clear hs hw0 c3
   go_enter Tryz.func110, Tryz.ntmps110
   go_wp2_with fail
   refine HW.out.mono ?_
   rintro e w1 ⟨rfl, hp1, hk1⟩
   have H1 := Yq (H.out.call hp1 hk1)
   clear hp1 hk1 c6
   have HS := Yq (Hs.out _ w1 H1.out)
   go_wp2_with fail
   refine HS.out.mono ?_
   rintro e w2 ⟨rfl, hp2, hk2⟩
   have H2 := Yq (H1.out.call hp2 hk2)
   clear hp2 hk2
   have HB2 := H2.out.blk
   go_upto_region 4 with (first
    | (refine wpList_store_blk1 rfl 3 _ _ rfl g 6 (.int .i64 1) rfl rfl _ HB2 info_int1 ?_ rfl ?_; (· show 6 + 1 ≤ 10; decide); (intro w3 hB3 hgr hsz)))
   have H3 : Hid (FAt A p g v ts w0 _ { f with packed := 1 } w3) := H2.out.wrote hB3 hgr
   have HT := Yq (Hw.out _ w3 { f with packed := 1 } Sx.bTrue H3.out)
   rw [hw1] at HT
   clear hB3 hgr hsz HB2 hw1
   cases hs2 : Sx.sees ts 1 Sx.bTrue (Sx.sign ts 61 s.next)
   ·rw [hs2] at HT
    simp only [↓reduceIte, Bool.false_eq_true] at HT
    rw [hs2] at HO
    clear hs2
    go_wp2_with fail
    refine HT.out.mono ?_
    rintro e w4 ⟨rfl, hp4, hk4⟩
    have H4 := Yq (H3.out.call hp4 hk4)
    clear hp4 hk4
    have HM := Yq (Hm.out _ w4 _ H4.out)
    go_wp2_with fail
    refine HM.out.mono ?_
    rintro e w5 ⟨rfl, hp5, hk5⟩
    have H5 := Yq (H4.out.call hp5 hk5)
    clear hp5 hk5
    have HB5 := H5.out.blk
    go_wp2_with (first
     | (refine wpList_store_blk1 rfl 3 _ _ rfl g 6 (.int .i64 2) rfl rfl _ HB5 info_int1 ?_ rfl ?_; (· show 6 + 1 ≤ 10; decide); (intro w6 hB6 hgr hsz)))
    have H6 : Hid (FAt A p g v ts w0 _ { f with packed := 2 } w6) := H5.out.wrote hB6 hgr
    go_end0
    rw [HO.out]; exact ⟨rfl, H6.out⟩
   ·rw [hs2] at HT
    simp only [↓reduceIte, Bool.false_eq_true] at HT
    rw [hs2] at HO
    clear hs2
    go_wp2_with fail
    refine HT.out.mono ?_
    rintro e w4 ⟨rfl, hp4, hk4⟩
    have H4 := Yq (H3.out.call hp4 hk4)
    clear hp4 hk4
    go_wp2_with fail
    go_end0
    rw [HO.out]; exact ⟨rfl, H4.out⟩
 ·have hno : ¬ (f.packed = 0 ∧ Sx.sees ts 1 Sx.bPacked s = true) := fun e => hpk e.1
  have hp1 : ¬ (f.packed : Int) = 0 := by omega
  have hp2 : ((f.packed : Int) == 0) = false := beq_eq_false_iff_ne.2 hp1
  by_cases hk : f.key = []
  ·replace c3 : w.cell? ⟨g, 3, none⟩ = some (.string ⟨#[]⟩) := by rw [hk] at c3; exact c3
   have HK := Yq (Hw.out s w f Sx.bKey H.out)
   rw [hw0] at HK
   cases hs2 : Sx.sees ts 1 Sx.bKey s
   ·rw [hs2] at HK
    simp only [↓reduceIte, Bool.false_eq_true] at HK
    have HO := Yq (opt_none hno (fun e => by rw [hs2] at e; exact absurd e.2 (by decide)))
    clear hs2 hw0 hno
    go_enter Tryz.func110, Tryz.ntmps110
    go_wp2_with fail
    refine HK.out.mono ?_
    rintro e w7 ⟨rfl, hp7, hk7⟩
    have H7 := Yq (H.out.call hp7 hk7)
    clear hp7 hk7 c3
    have HF := Yq (Hfl.out _ w7 H7.out)
    go_wp2_with fail
    refine HF.out.mono ?_
    rintro e w8 ⟨rfl, hp8, hk8⟩
    have H8 := Yq (H7.out.call hp8 hk8)
    clear hp8 hk8
    go_wp2_with fail
    go_end0
    rw [HO.out]; exact ⟨rfl, H8.out⟩
   ·rw [hs2] at HK
    simp only [↓reduceIte, Bool.false_eq_true] at HK
    have HO := Yq (opt_key hno hk hs2)
    clear hs2 hw0 hno
    go_enter Tryz.func110, Tryz.ntmps110
    go_wp2_with fail
    refine HK.out.mono ?_
    rintro e w7 ⟨rfl, hp7, hk7⟩
    have H7 := Yq (H.out.call hp7 hk7)
    clear hp7 hk7 c3
    have HS := Yq (Hs.out _ w7 H7.out)
    go_wp2_with fail
    refine HS.out.mono ?_
    rintro e w8 ⟨rfl, hp8, hk8⟩
    have H8 := Yq (H7.out.call hp8 hk8)
    clear hp8 hk8
    have HN := Yq (Hn.out _ w8 H8.out)
    generalize Sx.of ts 1 (Sx.sign ts 61 s.next) = r at *
    obtain ⟨x, s9⟩ := r
    go_wp2_with fail
    refine HN.out.mono ?_
    rintro e w9 ⟨rfl, hp9, hk9⟩
    have H9 := Yq (H8.out.call hp9 hk9)
    clear hp9 hk9
    have HB9 := H9.out.blk
    go_wp2_with (first
     | (refine wpList_store_blk1 rfl 9 _ _ rfl g 3 (.string (toB x.text)) rfl rfl _ HB9 info_str1 ?_ rfl ?_; (· show 3 + 1 ≤ 10; decide); (intro w10 hB10 hgr hsz)))
    have H10 : Hid (FAt A p g v ts w0 _ { f with key := x.text } w10) := H9.out.wrote hB10 hgr
    go_end0
    rw [HO.out]; exact ⟨rfl, H10.out⟩
  ·have HO := Yq (opt_none hno (fun e => hk e.1))
   have hke := empty_beq f.key
   rw [decide_eq_false hk] at hke
   have hke2 : ((toB f.key).toList == []) = false := by rw [show (⟨#[]⟩ : ByteArray).toList = [] from by rw [Lib.toList_data]] at hke; exact hke
   have HF := Yq (Hfl.out _ w H.out)
   clear hk hw0 hno Hw Hm Hn Hs
   go_enter Tryz.func110, Tryz.ntmps110
   go_wp2_with fail
   refine HF.out.mono ?_
   rintro e w8 ⟨rfl, hp8, hk8⟩
   have H8 := Yq (H.out.call hp8 hk8)
   clear hp8 hk8
   go_wp2_with fail
   go_end0
   rw [HO.out]; exact ⟨rfl, H8.out⟩
theorem fSxRestA12_36 {P : Program} {M : Region.Mode} {O : Array Oper} {Q : Exit → Act → World → Prop} {Y Z : World → Prop} {f F : Nat} {a b c e g i j k l m n o : Bool} {p q r s t u v x y z a0 a1 a2 a3 a4 a5 a6 a7 a8 a9 aA aB aC aD aE aF aG aH aI aJ aK aL aM aN aO aP : Value} {d} {w : World} (h : wpAnyG P M O Q Y Z f F #[a,b,c,e,g,i,j,k,l,m,n,o] ⟨#[p,q,r,s,t,u,v,x,y,z,a0,a1,a2,a3,a4,a5,a6,a7,a8,a9,aA,aB,aC,aD,aE,aF,aG,aH,aI,aJ,aK,aL,aM,aN,aO,aP],d⟩ w) : wpAnyG P M O Q Y Z f F #[a,b,c,e,g,i,j,k,l,m,n,o] ⟨#[p,q,r,s,t,u,v,x,y,z,a0,a1,a2,a3,a4,a5,a6,a7,a8,a9,aA,aB,aC,aD,aE,aF,aG,aH,aI,aJ,aK,aL,aM,aN,aO,aP],d⟩ w := h
theorem FAt.below {A : Nat → Addr} {p g : Nat} {v : Value} {ts : List Lx.Tok} {w0 w w' : World} {s : Sx.St} {f : Sx.Fld} (h : FAt A p g v ts w0 s f w) (hb : Below w.heap.size w w') : FAt A p g v ts w0 s f w' :=
 h.call (h.par.below hb) (Kept.of_below hb)
theorem field_num (k x a b : Int) (t : ByteArray) (w : World) : (Instr.field 80 (.agg #[.int .i64 k, .string t, .int .i64 x, .int .i64 a, .int .i64 b]) 2).run Tryz.prog w = .ok (.int .i64 x) w := by kernel_rfl
theorem field_kind (k x a b : Int) (t : ByteArray) (w : World) : (Instr.field 80 (.agg #[.int .i64 k, .string t, .int .i64 x, .int .i64 a, .int .i64 b]) 0).run Tryz.prog w = .ok (.int .i64 k) w := by kernel_rfl
theorem of_arr (A : Nat → Addr) (p k : Nat) (hk : k ≠ 0) (v : Value) (ts : List Lx.Tok) (s : Sx.St) (w : World) (hv : Vars A w) (h : Par A p v ts s w) :
  Calls Tryz.prog 49 #[.pointer (some ⟨p, 0, none⟩), .int .i64 k] w fun e w' => e = .returned (.agg #[.int .i64 ((Sx.of ts k s).1.kind : Nat), .string (toB (Sx.of ts k s).1.text), .int .i64 ((Sx.of ts k s).1.num : Nat), .int .i64 ((Sx.of ts k s).1.line : Nat), .int .i64 ((Sx.of ts k s).1.col : Nat)]) ∧ Par A p v ts (Sx.of ts k s).2 w' ∧ Kept [p] w w' :=
 of_any A p k hk v ts s w hv h
def FldPost (A : Nat → Addr) (p : Nat) (v : Value) (ts : List Lx.Tok) (w : World) (r : Sx.Fld × Sx.St) (e : Ending) (w' : World) : Prop :=
 e = .returned (.agg (fC r.1).toArray) ∧ Par A p v ts r.2 w' ∧ Kept [p] w w'
theorem one1 {v : Value} (h : v.oneCell' = true) : ∀ u ∈ [v], u.oneCell' = true := fun u hu => by rw [List.mem_singleton.1 hu]; exact h
set_option maxHeartbeats 8000000 in
set_option maxRecDepth 100000 in
theorem rest_any (A : Nat → Addr) (p : Nat) (v : Value) (ts : List Lx.Tok) (s : Sx.St) (f : Sx.Fld) (w : World) (hE : Env A p v ts w) (hP : Par A p v ts s w) :
  Calls Tryz.prog 98 #[.pointer (some ⟨p, 0, none⟩), .agg (fC f).toArray] w (FldPost A p v ts w (Sx.rest ts f s)) := by
 have Hv := Yq hE; have Hp := Yq hP; have Hplt := Yq hP.lt
 obtain ⟨R, hR⟩ : ∃ R, R = Sx.rest ts f s := ⟨_, rfl⟩
 rw [← hR]
 have HR := Yq hR
 have hfd := field_num
 clear hR hE hP
 go_enter Tryz.func98, Tryz.ntmps98
 go_upto_region 1 with (first
  | (refine wpList_box_lay rfl 47 _ rfl (fC f) rfl ?_; (intro w1 gf hgf hBf hb1))
  | (refine wpList_alloc_lay rfl 47 rfl zF zeroF ?_; (intro w2 gr hgr hBr hb2)))
 have Hb2 : Hid (Below w.heap.size w w2) := Yq (hb1.trans (hb2.mono hb1.size))
 have Hgr : Hid (Blk w2 gr zF ∧ w.heap.size ≤ gf ∧ w.heap.size ≤ gr ∧ gf ≠ gr ∧ p < gf ∧ p < gr) := Yq ⟨hBr, hgf, Nat.le_trans hb1.size hgr, fun e => by have := hBf.lt; omega, Nat.lt_of_lt_of_le Hplt.out hgf, by have := Hplt.out; have := hb1.size; omega⟩
 have H2 : Hid (FAt A p gf v ts w2 s f w2) := Yq ⟨Hp.out.below Hb2.out, Hv.out.below (Hb2.out.mono (Nat.le_of_lt Hplt.out)), hBf.below hb2 hBf.lt, Kept.refl _ _, Hgr.out.2.2.2.2.1⟩
 clear hb1 hb2 hgf hgr hBf hBr
 have HN := Yq (name_arr A p v ts s w2 H2.out.env.vars H2.out.par)
 obtain ⟨N, hN⟩ : ∃ N, N = Sx.of ts 1 s := ⟨_, rfl⟩
 rw [← hN] at HN
 have HNe := Yq hN
 obtain ⟨x, s1⟩ := N
 simp only at HN
 clear hN
 go_upto_region 2 with (first
  | (go_at_call 52; (with_reducible refine HN.out.mono ?_); rintro e w3 ⟨rfl, hp3, hk3⟩; have H3 := Yq (H2.out.call hp3 hk3); clear hp3 hk3)
  | (refine wpList_alloc_lay rfl 80 rfl zT zeroT ?_; (intro w4 g5 hg5 hB5 hb4))
  | (refine wpList_store_all rfl 80 _ _ rfl g5 (tC x) rfl rfl zT hB5 infoT rfl (one_tC x) ?_; (intro w5 hB6 hgr5; have hb5 := Below.grown hb4 hgr5 hb4.size (fun _ e => by cases e; exact hg5); clear hb4 hgr5 hB5)))
 have H5 : Hid (FAt A p gf v ts w2 s1 f w5.drew) := Yq ((H3.out.below hb5).below (Below.refl _ _).drew)
 have hP5 : Blk w5.drew g5 (tC x) := hB6
 have Hne : Hid (some g5 ≠ some gf) := Yq (fun e => by have h1 := H3.out.blk.lt; cases e; omega)
 clear hb5 hg5 hB6
 refine wp_region_G 11 (fun w' => Blk w' g5 (tC x)) (fun _ => True) (by kernel_rfl) hP5 trivial (fun _ => ?_)
 refine wpAnyG_take0 (i := 0) (v := .pointer (some ⟨g5, 1, none⟩)) rfl (by kernel_rfl) (fun _ _ _ h => h) (.inl ⟨by rfl, fun w hw => by go_simp⟩) (InvG.mk hP5 trivial) ?_
 refine fSxRestA12_36 ?_
 refine wpAnyG_take0 (i := 1) (v := .string (toB x.text)) rfl (by kernel_rfl) (fun _ _ _ h => h) (.inl ⟨by rfl, fun w hw => by have hc := hw.cell (o := 1) (u := .string (toB x.text)) rfl; clear hw; go_simp⟩) (InvG.mk hP5 trivial) ?_
 refine fSxRestA12_36 ?_
 refine wpAnyG_take0 (i := 2) (v := .pointer (some ⟨g5, 3, none⟩)) rfl (by kernel_rfl) (fun _ _ _ h => h) (.inl ⟨by rfl, fun w hw => by go_simp⟩) (InvG.mk hP5 trivial) ?_
 refine fSxRestA12_36 ?_
 refine wpAnyG_take0 (i := 3) (v := .int .i64 x.line) rfl (by kernel_rfl) (fun _ _ _ h => h) (.inl ⟨by rfl, fun w hw => by have hc := hw.cell (o := 3) (u := .int .i64 x.line) rfl; clear hw; go_simp⟩) (InvG.mk hP5 trivial) ?_
 refine fSxRestA12_36 ?_
 refine wpAnyG_take0 (i := 4) (v := .pointer (some ⟨g5, 4, none⟩)) rfl (by kernel_rfl) (fun _ _ _ h => h) (.inl ⟨by rfl, fun w hw => by go_simp⟩) (InvG.mk hP5 trivial) ?_
 refine fSxRestA12_36 ?_
 refine wpAnyG_take0 (i := 5) (v := .int .i64 x.col) rfl (by kernel_rfl) (fun _ _ _ h => h) (.inl ⟨by rfl, fun w hw => by have hc := hw.cell (o := 4) (u := .int .i64 x.col) rfl; clear hw; go_simp⟩) (InvG.mk hP5 trivial) ?_
 refine fSxRestA12_36 ?_
 refine wpAnyG_take0 (i := 6) (v := .pointer (some ⟨gf, 0, none⟩)) rfl (by kernel_rfl) (fun _ _ _ h => h) (.inl ⟨by rfl, fun w hw => by go_simp⟩) (InvG.mk hP5 trivial) ?_
 refine fSxRestA12_36 ?_
 refine wpAnyG_ready (rs := [7]) (by kernel_rfl) (by simp) ?_
 refine AllReadyG.plain rfl rfl (fun K hK => ?_) AllReadyG.nil
 refine wp_store_lay 9 _ _ rfl gf 0 (.string (toB x.text)) [.string (toB x.text)] (fC f) (by go_simp) (by go_simp) rfl H5.out.blk info_str1 (show 0 + 1 ≤ 10 by decide) (one1 rfl) ?_
 intro w6 hB6 hg6 hs6
 have H6 : Hid (FAt A p gf v ts w2 s1 { f with name := x.text } w6) := Yq (H5.out.wrote hB6 hg6)
 have hP6 : Blk w6 g5 (tC x) := hP5.grown hg6 Hne.out
 clear hB6 hg6 hs6
 refine hK.out _ _ (InvG.mk hP6 trivial) (fun _ => ?_)
 clear hK
 refine fSxRestA12_36 ?_
 refine wpAnyG_take0 (i := 8) (v := .pointer (some ⟨gf, 8, none⟩)) rfl (by kernel_rfl) (fun _ _ _ h => h) (.inl ⟨by rfl, fun w hw => by go_simp⟩) (InvG.mk hP6 trivial) ?_
 refine fSxRestA12_36 ?_
 refine wpAnyG_ready (rs := [9]) (by kernel_rfl) (by simp) ?_
 refine AllReadyG.plain rfl rfl (fun K hK => ?_) AllReadyG.nil
 refine wp_store_lay 3 _ _ rfl gf 8 (.int .i64 x.line) [.int .i64 x.line] (fC { f with name := x.text }) (by go_simp) (by go_simp) rfl H6.out.blk info_int1 (show 8 + 1 ≤ 10 by decide) (one1 rfl) ?_
 intro w7 hB7 hg7 hs7
 have H7 : Hid (FAt A p gf v ts w2 s1 { f with name := x.text, line := x.line } w7) := Yq (H6.out.wrote hB7 hg7)
 have hP7 : Blk w7 g5 (tC x) := hP6.grown hg7 Hne.out
 clear hB7 hg7 hs7
 refine hK.out _ _ (InvG.mk hP7 trivial) (fun _ => ?_)
 clear hK
 refine fSxRestA12_36 ?_
 refine wpAnyG_take0 (i := 10) (v := .pointer (some ⟨gf, 9, none⟩)) rfl (by kernel_rfl) (fun _ _ _ h => h) (.inl ⟨by rfl, fun w hw => by go_simp⟩) (InvG.mk hP7 trivial) ?_
 refine fSxRestA12_36 ?_
 refine wpAnyG_ready (rs := [11]) (by kernel_rfl) (by simp) ?_
 refine AllReadyG.plain rfl rfl (fun K hK => ?_) AllReadyG.nil
 refine wp_store_lay 3 _ _ rfl gf 9 (.int .i64 x.col) [.int .i64 x.col] (fC { f with name := x.text, line := x.line }) (by go_simp) (by go_simp) rfl H7.out.blk info_int1 (show 9 + 1 ≤ 10 by decide) (one1 rfl) ?_
 intro w8 hB8 hg8 hs8
 have H8 : Hid (FAt A p gf v ts w2 s1 { f with name := x.text, line := x.line, col := x.col } w8) := Yq (H7.out.wrote hB8 hg8)
 have hP8 : Blk w8 g5 (tC x) := hP7.grown hg8 Hne.out
 clear hB8 hg8 hs8
 refine hK.out _ _ (InvG.mk hP8 trivial) (fun _ => ?_)
 clear hK
 refine fSxRestA12_36 ?_
 refine wpAnyG_done (by kernel_rfl) ?_ _
 clear hP5 hP6 hP7 hP8
 have HS := Yq (sign_any A p 61 v ts s1 w8 H8.out.env.vars H8.out.env.glt H8.out.par)
 go_wp2_with fail
 refine HS.out.mono ?_
 rintro e w9 ⟨rfl, hp9, hk9⟩
 have H9 := Yq (H8.out.call hp9 hk9)
 clear hp9 hk9
 have HO := Yq (of_arr A p 2 (by decide) v ts _ w9 H9.out.env.vars H9.out.par)
 obtain ⟨M, hM⟩ : ∃ M, M = Sx.of ts 2 (Sx.sign ts 61 s1) := ⟨_, rfl⟩
 rw [← hM] at HO
 have HMe := Yq hM
 obtain ⟨y, s2⟩ := M
 simp only at HO
 clear hM
 go_wp2_with fail
 refine HO.out.mono ?_
 rintro e w10 ⟨rfl, hp10, hk10⟩
 have H10 := Yq (H9.out.call hp10 hk10)
 clear hp10 hk10
 have HB10 := H10.out.blk
 go_upto_region 5 with (first
  | (refine wpList_store_blk1 rfl 3 _ _ rfl gf 5 (.int .i64 y.num) rfl rfl _ HB10 info_int1 ?_ rfl ?_; (· show 5 + 1 ≤ 10; decide); (intro w11 hB11 hgr11 hsz)))
 obtain ⟨f1, hf1⟩ : ∃ f1 : Sx.Fld, f1 = { f with name := x.text, line := x.line, col := x.col, number := y.num } := ⟨_, rfl⟩
 have H11 : Hid (FAt A p gf v ts w2 s2 f1 w11) := Yq (by rw [hf1]; exact H10.out.wrote hB11 hgr11)
 have HRN : Hid (Sx.restN ts f s = (f1, s2)) := Yq (by
  unfold Sx.restN
  have e1 := HNe.out; have e2 := HMe.out
  rw [← e1]; dsimp only; rw [← e2, hf1])
 clear hB11 hgr11 hsz HB10 hf1
 have HT := Yq (takes_any A p 4 (by decide) v ts s2 [91] w11 H11.out.par)
 unfold Sx.takes at HT
 cases hs : Sx.sees ts 4 [91] s2
 ·rw [hs] at HT
  simp only [↓reduceIte, Bool.false_eq_true] at HT
  have HEnd : Hid (R = (f1, Sx.sign ts 59 s2)) := Yq (by rw [HR.out]; unfold Sx.rest Sx.restO; rw [HRN.out]; dsimp only; rw [hs]; rfl)
  clear hs
  go_wp2_with fail
  refine HT.out.mono ?_
  rintro e w12 ⟨rfl, hp12, hk12⟩
  have H12 := Yq (H11.out.call hp12 hk12)
  clear hp12 hk12
  have HS2 := Yq (sign_any A p 59 v ts s2 w12 H12.out.env.vars H12.out.env.glt H12.out.par)
  go_wp2_with fail
  refine HS2.out.mono ?_
  rintro e w13 ⟨rfl, hp13, hk13⟩
  have H13 := Yq (H12.out.call hp13 hk13)
  clear hp13 hk13
  have HB13 := H13.out.blk.whole
  have HBr := H13.out.kept.blk Hgr.out.1 (by have := Hgr.out; simp; omega)
  go_wp2_with (first
   | (refine wpList_load_seg rfl 47 _ rfl _ _ rfl _ _ HB13 Tryz.underlying47 rfl infoF ?_)
   | (refine wpList_store_all rfl 47 _ _ rfl gr (fC f1) rfl rfl zF HBr infoF rfl (one_fC f1) ?_; (intro w14 hB14 hgr14)))
  rw [HEnd.out]
  refine bodyPost_ret (v := .agg (fC f1).toArray) ?_ rfl ⟨rfl, (Par.wrote H13.out.env H13.out.par HBr (by decide) hgr14 Hgr.out.2.2.2.2.2).1, ?_⟩
  ·exact results_blk (p := 4) (ty := 47) rfl _ _ gr (fC f1) rfl hB14 _ Tryz.underlying47 rfl infoF
  ·exact (Kept.since Hb2.out H13.out.kept Hgr.out.2.1).then_new hgr14 Hgr.out.2.2.1
 ·rw [hs] at HT
  simp only [↓reduceIte, Bool.false_eq_true] at HT
  obtain ⟨O, hO⟩ : ∃ O, O = Sx.options ts (ts.length + 1) (Sx.option ts f1 s2.next).1 (Sx.option ts f1 s2.next).2 := ⟨_, rfl⟩
  have HEnd : Hid (R = (O.1, Sx.sign ts 59 (Sx.sign ts 93 O.2))) := Yq (by rw [HR.out]; unfold Sx.rest Sx.restO; rw [HRN.out]; dsimp only; rw [hs, hO]; rfl)
  have HO1 := Yq hO
  clear hs hO
  go_wp2_with fail
  refine HT.out.mono ?_
  rintro e w12 ⟨rfl, hp12, hk12⟩
  have H12 := Yq (H11.out.call hp12 hk12)
  clear hp12 hk12
  have HOp := Yq (option_any A p gf v ts s2.next f1 w12 w2 H12.out)
  go_wp2_with fail
  refine HOp.out.mono ?_
  rintro e w13 ⟨rfl, h13⟩
  have H13 := Yq h13
  clear h13
  go_wp2_with fail
  go_loopg [] (ts.length + 1) (fun n wr => ∃ (f' : Sx.Fld) (s' : Sx.St), Hid (FAt A p gf v ts w2 s' f' wr) ∧ Hid (O = Sx.options ts n f' s') ∧ Hid (s'.err = none → ts.length + 1 ≤ s'.pos + n))
  case atStart => exact ⟨_, _, H13, HO1, Yq (fun _ => by omega)⟩
  case round =>
   obtain ⟨f2, s3, HA, HOn, HF⟩ := hrel
   have HT3 := Yq (takes_any A p 4 (by decide) v ts s3 [44] wr HA.out.par)
   unfold Sx.takes at HT3
   cases hs : Sx.sees ts 4 [44] s3
   ·rw [hs] at HT3
    simp only [↓reduceIte, Bool.false_eq_true] at HT3
    have hend : O = (f2, s3) := by
     rw [HOn.out]
     cases gk with
     | zero => rfl
     | succ n => rw [Sx.options, hs]; rfl
    have HEnd : Hid (R = (f2, Sx.sign ts 59 (Sx.sign ts 93 s3))) := Yq (by rw [HEnd.out, hend])
    clear hs hend
    go_wp2_with fail
    refine HT3.out.mono ?_
    rintro e w20 ⟨rfl, hp20, hk20⟩
    have H20 := Yq (HA.out.call hp20 hk20)
    clear hp20 hk20
    have HS3 := Yq (sign_any A p 93 v ts s3 w20 H20.out.env.vars H20.out.env.glt H20.out.par)
    go_wp2_with fail
    refine HS3.out.mono ?_
    rintro e w21 ⟨rfl, hp21, hk21⟩
    have H21 := Yq (H20.out.call hp21 hk21)
    clear hp21 hk21
    have HS4 := Yq (sign_any A p 59 v ts _ w21 H21.out.env.vars H21.out.env.glt H21.out.par)
    go_wp2_with fail
    refine HS4.out.mono ?_
    rintro e w22 ⟨rfl, hp22, hk22⟩
    have H22 := Yq (H21.out.call hp22 hk22)
    clear hp22 hk22
    have HB22 := H22.out.blk.whole
    have HBr := H22.out.kept.blk Hgr.out.1 (by have := Hgr.out; simp; omega)
    go_wp2_with (first
     | (refine wpList_load_seg rfl 47 _ rfl _ _ rfl _ _ HB22 Tryz.underlying47 rfl infoF ?_)
     | (refine wpList_store_all rfl 47 _ _ rfl gr (fC f2) rfl rfl zF HBr infoF rfl (one_fC f2) ?_; (intro w23 hB23 hgr23)))
    rw [HEnd.out]
    refine bodyPost_ret (v := .agg (fC f2).toArray) ?_ rfl ⟨rfl, (Par.wrote H22.out.env H22.out.par HBr (by decide) hgr23 Hgr.out.2.2.2.2.2).1, ?_⟩
    ·exact results_blk (p := 4) (ty := 47) rfl _ _ gr (fC f2) rfl hB23 _ Tryz.underlying47 rfl infoF
    ·exact (Kept.since Hb2.out H22.out.kept Hgr.out.2.1).then_new hgr23 Hgr.out.2.2.1
   ·rw [hs] at HT3
    simp only [↓reduceIte, Bool.false_eq_true] at HT3
    obtain ⟨he, hpos⟩ := sees_here (by decide) hs
    have hfuel := HF.out he
    obtain ⟨n, rfl⟩ : ∃ n, gk = n + 1 := ⟨gk - 1, by omega⟩
    have Hnx : Hid (O = Sx.options ts n (Sx.option ts f2 s3.next).1 (Sx.option ts f2 s3.next).2) := Yq (by rw [HOn.out, Sx.options, hs]; rfl)
    have Hgo := Yq (Sx.option_go ts f2 s3.next)
    clear hs HOn HF
    go_wp2_with fail
    refine HT3.out.mono ?_
    rintro e w20 ⟨rfl, hp20, hk20⟩
    have H20 := Yq (HA.out.call hp20 hk20)
    clear hp20 hk20
    have HOp2 := Yq (option_any A p gf v ts s3.next f2 w20 w2 H20.out)
    go_wp2_with fail
    refine HOp2.out.mono ?_
    rintro e w21 ⟨rfl, h21⟩
    have H21 := Yq h21
    clear h21
    go_wp2_with fail
    go_roundg n
    case measure => omega
    case rel =>
     refine ⟨_, _, H21, Hnx, Yq (fun he3 => ?_)⟩
     have h1 := (Hgo.out he3).2
     have e2 : s3.next.pos = s3.pos + 1 := rfl
     omega
theorem fld_build (a b : Int) (t : ByteArray) (w : World) : (Instr.build 47 #[(4, .int .i64 a), (7, .int .i64 b), (1, .string t)]).run Tryz.prog w = .ok (.agg #[.string ⟨#[]⟩, .string t, .string ⟨#[]⟩, .string ⟨#[]⟩, .int .i64 a, .int .i64 0, .int .i64 0, .int .i64 b, .int .i64 0, .int .i64 0]) w := by kernel_rfl
theorem fld_build1 (a : Int) (w : World) : (Instr.build 47 #[(4, .int .i64 a)]).run Tryz.prog w = .ok (.agg #[.string ⟨#[]⟩, .string ⟨#[]⟩, .string ⟨#[]⟩, .string ⟨#[]⟩, .int .i64 a, .int .i64 0, .int .i64 0, .int .i64 0, .int .i64 0, .int .i64 0]) w := by kernel_rfl
set_option maxHeartbeats 4000000 in
set_option maxRecDepth 100000 in
theorem field_any (A : Nat → Addr) (p label oneof : Nat) (v : Value) (ts : List Lx.Tok) (s : Sx.St) (w : World) (hE : Env A p v ts w) (hP : Par A p v ts s w) :
  Calls Tryz.prog 78 #[.pointer (some ⟨p, 0, none⟩), .int .i64 label, .int .i64 oneof] w (FldPost A p v ts w (Sx.field ts label oneof s)) := by
 have Hv := Yq hE; have Hp := Yq hP; have Hplt := Yq hP.lt
 have HTy := Yq (fun w0 (e0 : Env A p v ts w0) (h0 : Par A p v ts s w0) => typ_any A p v ts e0.small s w0 e0.vars e0.glt h0)
 have HRs := Yq (fun w0 t s0 (e0 : Env A p v ts w0) (h0 : Par A p v ts s0 w0) => (show Calls Tryz.prog 98 #[.pointer (some ⟨p, 0, none⟩), .agg #[.string ⟨#[]⟩, .string (toB t), .string ⟨#[]⟩, .string ⟨#[]⟩, .int .i64 label, .int .i64 0, .int .i64 0, .int .i64 oneof, .int .i64 0, .int .i64 0]] w0 (FldPost A p v ts w0 (Sx.rest ts { Sx.zFld with label := label, oneof := oneof, typ := t } s0)) from rest_any A p v ts s0 _ w0 e0 h0))
 have hbd := fld_build
 unfold Sx.field
 generalize Sx.typ ts s = T at *
 obtain ⟨t, s1⟩ := T
 simp only at HTy ⊢
 have HR := Yq (fun w0 => HRs.out w0 t s1)
 clear HRs hE hP
 generalize Sx.rest ts { Sx.zFld with label := label, oneof := oneof, typ := t } s1 = R at *
 obtain ⟨f, s2⟩ := R
 unfold FldPost at HR
 simp only at HR
 go_enter Tryz.func78, Tryz.ntmps78
 go_upto_region 1 with (first
  | (refine wpList_alloc_lay rfl 47 rfl zF zeroF ?_; (intro w1 gr hgr hBr hb1)))
 have HE1 := Yq (Hv.out.below (hb1.mono (Nat.le_of_lt Hplt.out)))
 have HT1 := Yq (HTy.out w1 HE1.out (Hp.out.below hb1))
 have Hb1 := Yq hb1; have HBr := Yq hBr; have Hgr := Yq hgr
 have Hne := Yq (show p < gr from Nat.lt_of_lt_of_le Hplt.out hgr)
 clear hb1 hBr hgr HTy
 go_wp2_with fail
 refine HT1.out.mono ?_
 rintro e w2 ⟨rfl, hp2, hk2⟩
 have HE2 := Yq (HE1.out.kept hk2 (Nat.lt_of_lt_of_le Hplt.out Hb1.out.size) (fun k hm => by rw [List.mem_singleton.1 hm]; exact Nat.le_refl _))
 have HR2 := Yq (HR.out w2 HE2.out hp2)
 have HBr2 := Yq (hk2.blk HBr.out (by have := Hne.out; simp; omega))
 have HK2 := Yq ((Kept.of_below Hb1.out).trans hk2)
 clear hp2 hk2 HT1
 go_wp2_with fail
 refine HR2.out.mono ?_
 rintro e w3 ⟨rfl, hp3, hk3⟩
 have HE3 := Yq (HE2.out.kept hk3 (Nat.lt_of_lt_of_le Hplt.out HK2.out.size) (fun k hm => by rw [List.mem_singleton.1 hm]; exact Nat.le_refl _))
 have HBr3 := hk3.blk HBr2.out (by have := Hne.out; simp; omega)
 have HK3 := Yq (HK2.out.trans hk3)
 have HP3 := Yq hp3
 clear hp3 hk3 HR2
 go_wp2_with (first
  | (refine wpList_store_all rfl 47 _ _ rfl gr (fC f) rfl rfl zF HBr3 infoF rfl (one_fC f) ?_; (intro w4 hB4 hgr4)))
 refine bodyPost_ret (v := .agg (fC f).toArray) ?_ rfl ⟨rfl, (Par.wrote HE3.out HP3.out HBr3 (by decide) hgr4 Hne.out).1, HK3.out.then_new hgr4 Hgr.out⟩
 exact results_blk (p := 6) (ty := 47) rfl _ _ gr (fC f) rfl hB4 _ Tryz.underlying47 rfl infoF
set_option maxHeartbeats 8000000 in
set_option maxRecDepth 100000 in
theorem mapped_any (A : Nat → Addr) (p : Nat) (v : Value) (ts : List Lx.Tok) (s : Sx.St) (w : World) (hE : Env A p v ts w) (hP : Par A p v ts s w) :
  Calls Tryz.prog 80 #[.pointer (some ⟨p, 0, none⟩)] w (FldPost A p v ts w (Sx.mapped ts s)) := by
 have Hv := Yq hE; have Hp := Yq hP; have Hplt := Yq hP.lt
 obtain ⟨R, hR⟩ : ∃ R, R = Sx.mapped ts s := ⟨_, rfl⟩
 rw [← hR]
 have HR := Yq hR
 have hfd := field_text
 have hbd := fld_build1
 clear hR hE hP
 go_enter Tryz.func80, Tryz.ntmps80
 go_upto_region 1 with (first
  | (refine wpList_alloc_lay rfl 47 rfl zF zeroF ?_; (intro w1 gr hgr hBr hb1)))
 go_upto_region 2 with (first
  | (refine wpList_alloc_lay rfl 47 rfl zF zeroF ?_; (intro w2 gf hgf hBf hb2; have hBr2 := hBr.below hb2 hBr.lt; have hlt1 := hBr.lt; clear hBr))
  | (refine wpList_store_all rfl 47 _ _ rfl gf (fC { Sx.zFld with label := 4 }) rfl rfl zF hBf infoF rfl (one_fC _) ?_; (intro w3 hB3 hgr3)))
 have hb3 : Below w1.heap.size w1 w3 := Below.grown hb2 hgr3 hb2.size (fun _ e => by cases e; exact hgf)
 have Hb3 : Hid (Below w.heap.size w w3) := Yq (hb1.trans (hb3.mono hb1.size))
 have hrf : gr ≠ gf := fun e => by omega
 have Hgr : Hid (Blk w3 gr zF ∧ w.heap.size ≤ gf ∧ w.heap.size ≤ gr ∧ gf ≠ gr ∧ p < gf ∧ p < gr) := Yq ⟨hBr2.grown hgr3 (fun e => hrf (Option.some.inj e)), Nat.le_trans hb1.size hgf, hgr, fun e => hrf e.symm, by have := Hplt.out; have := hb1.size; omega, Nat.lt_of_lt_of_le Hplt.out hgr⟩
 have H3 : Hid (FAt A p gf v ts w3 s { Sx.zFld with label := 4 } w3) := Yq ⟨Hp.out.below Hb3.out, Hv.out.below (Hb3.out.mono (Nat.le_of_lt Hplt.out)), hB3, Kept.refl _ _, Hgr.out.2.2.2.2.1⟩
 clear hb1 hb2 hb3 hgf hgr hBf hBr2 hgr3 hB3 hrf hlt1
 have HS := Yq (sign_any A p 60 v ts s w3 H3.out.env.vars H3.out.env.glt H3.out.par)
 go_wp2_with fail
 refine HS.out.mono ?_
 rintro e w4 ⟨rfl, hp4, hk4⟩
 have H4 := Yq (H3.out.call hp4 hk4)
 clear hp4 hk4
 have HN := Yq (name_arr A p v ts _ w4 H4.out.env.vars H4.out.par)
 obtain ⟨N, hN⟩ : ∃ N, N = Sx.of ts 1 (Sx.sign ts 60 s) := ⟨_, rfl⟩
 rw [← hN] at HN
 have HNe := Yq hN
 obtain ⟨x, s1⟩ := N
 simp only at HN
 clear hN
 go_wp2_with fail
 refine HN.out.mono ?_
 rintro e w5 ⟨rfl, hp5, hk5⟩
 have H5 := Yq (H4.out.call hp5 hk5)
 clear hp5 hk5
 have HB5 := H5.out.blk
 go_upto_region 4 with (first
  | (refine wpList_store_blk1 rfl 9 _ _ rfl gf 2 (.string (toB x.text)) rfl rfl _ HB5 info_str1 ?_ rfl ?_; (· show 2 + 1 ≤ 10; decide); (intro w6 hB6 hgr6 hsz)))
 have H6 : Hid (FAt A p gf v ts w3 s1 { Sx.zFld with label := 4, mapKey := x.text } w6) := Yq (H5.out.wrote hB6 hgr6)
 clear hB6 hgr6 hsz HB5
 have HS2 := Yq (sign_any A p 44 v ts s1 w6 H6.out.env.vars H6.out.env.glt H6.out.par)
 go_wp2_with fail
 refine HS2.out.mono ?_
 rintro e w7 ⟨rfl, hp7, hk7⟩
 have H7 := Yq (H6.out.call hp7 hk7)
 clear hp7 hk7
 have HTy := Yq (typ_any A p v ts H7.out.env.small _ w7 H7.out.env.vars H7.out.env.glt H7.out.par)
 obtain ⟨T, hT⟩ : ∃ T, T = Sx.typ ts (Sx.sign ts 44 s1) := ⟨_, rfl⟩
 rw [← hT] at HTy
 have HTe := Yq hT
 obtain ⟨t, s2⟩ := T
 simp only at HTy
 clear hT
 go_wp2_with fail
 refine HTy.out.mono ?_
 rintro e w8 ⟨rfl, hp8, hk8⟩
 have H8 := Yq (H7.out.call hp8 hk8)
 clear hp8 hk8
 have HB8 := H8.out.blk
 go_upto_region 6 with (first
  | (refine wpList_store_blk1 rfl 9 _ _ rfl gf 1 (.string (toB t)) rfl rfl _ HB8 info_str1 ?_ rfl ?_; (· show 1 + 1 ≤ 10; decide); (intro w9 hB9 hgr9 hsz)))
 obtain ⟨f1, hf1⟩ : ∃ f1 : Sx.Fld, f1 = { Sx.zFld with label := 4, mapKey := x.text, typ := t } := ⟨_, rfl⟩
 have H9 : Hid (FAt A p gf v ts w3 s2 f1 w9) := Yq (by rw [hf1]; exact H8.out.wrote hB9 hgr9)
 have HEnd : Hid (R = Sx.rest ts f1 (Sx.sign ts 62 s2)) := Yq (by
  rw [HR.out, hf1]
  unfold Sx.mapped Sx.mapK
  have e1 := HNe.out; have e2 := HTe.out
  rw [← e1]; dsimp only; rw [← e2])
 clear hB9 hgr9 hsz HB8 hf1
 have HS3 := Yq (sign_any A p 62 v ts s2 w9 H9.out.env.vars H9.out.env.glt H9.out.par)
 go_wp2_with fail
 refine HS3.out.mono ?_
 rintro e w10 ⟨rfl, hp10, hk10⟩
 have H10 := Yq (H9.out.call hp10 hk10)
 clear hp10 hk10
 have HRs := Yq (rest_any A p v ts _ f1 w10 H10.out.env H10.out.par)
 rw [← HEnd.out] at HRs
 obtain ⟨f, s3⟩ := R
 unfold FldPost at HRs
 simp only at HRs
 have HB10 := H10.out.blk.whole
 go_wp2_with (first
  | (refine wpList_load_seg rfl 47 _ rfl _ _ rfl _ _ HB10 Tryz.underlying47 rfl infoF ?_))
 refine HRs.out.mono ?_
 rintro e w11 ⟨rfl, hp11, hk11⟩
 have H11 := Yq (H10.out.call hp11 hk11)
 clear hp11 hk11 HB10
 have HBr := H11.out.kept.blk Hgr.out.1 (by have := Hgr.out; simp; omega)
 go_wp2_with (first
  | (refine wpList_store_all rfl 47 _ _ rfl gr (fC f) rfl rfl zF HBr infoF rfl (one_fC f) ?_; (intro w12 hB12 hgr12)))
 refine bodyPost_ret (v := .agg (fC f).toArray) ?_ rfl ⟨rfl, (Par.wrote H11.out.env H11.out.par HBr (by decide) hgr12 Hgr.out.2.2.2.2.2).1, ?_⟩
 ·exact results_blk (p := 2) (ty := 47) rfl _ _ gr (fC f) rfl hB12 _ Tryz.underlying47 rfl infoF
 ·exact (Kept.since Hb3.out H11.out.kept Hgr.out.2.1).then_new hgr12 Hgr.out.2.2.1
structure SAt (A : Nat → Addr) (p g : Nat) (v : Value) (ts : List Lx.Tok) (w0 : World) (s : Sx.St) (cs : List Value) (w : World) : Prop where
 par : Par A p v ts s w
 env : Env A p v ts w
 blk : Blk w g cs
 kept : Kept [p, g] w0 w
 lt : p < g
 ne : cs.length ≠ 3
theorem SAt.call {A : Nat → Addr} {p g : Nat} {v : Value} {ts : List Lx.Tok} {w0 w w' : World} {s s' : Sx.St} {cs : List Value} (h : SAt A p g v ts w0 s cs w) (hp : Par A p v ts s' w') (hk : Kept [p] w w') : SAt A p g v ts w0 s' cs w' :=
 ⟨hp, h.env.kept hk h.par.lt (fun k hm => by rw [List.mem_singleton.1 hm]; exact Nat.le_refl _), hk.blk h.blk (by have := h.lt; simp; omega), h.kept.trans (hk.mono (fun k hm _ => by rw [List.mem_singleton.1 hm]; simp)), h.lt, h.ne⟩
theorem SAt.below {A : Nat → Addr} {p g : Nat} {v : Value} {ts : List Lx.Tok} {w0 w w' : World} {s : Sx.St} {cs : List Value} (h : SAt A p g v ts w0 s cs w) (hb : Below w.heap.size w w') : SAt A p g v ts w0 s cs w' :=
 h.call (h.par.below hb) (Kept.of_below hb)
theorem SAt.wrote {A : Nat → Addr} {p g : Nat} {v : Value} {ts : List Lx.Tok} {w0 w w' : World} {s : Sx.St} {cs cs' : List Value} (h : SAt A p g v ts w0 s cs w) (hB : Blk w' g cs') (hn : cs'.length ≠ 3) (hg : w.grownBy w' (some g)) : SAt A p g v ts w0 s cs' w' :=
 have h1 := Par.wrote h.env h.par h.blk h.ne hg h.lt
 ⟨h1.1, h1.2, hB, h.kept.trans (Kept.of_grown hg (by simp)), h.lt, hn⟩
theorem val_build (a b : Int) (t : ByteArray) (w : World) : (Instr.build 116 #[(0, .string t), (2, .int .i64 a), (3, .int .i64 b)]).run Tryz.prog w = .ok (.agg #[.string t, .int .i64 0, .int .i64 a, .int .i64 b]) w := by kernel_rfl
def ValPost (A : Nat → Addr) (p : Nat) (v : Value) (ts : List Lx.Tok) (w : World) (r : Sx.Val × Sx.St) (e : Ending) (w' : World) : Prop :=
 e = .returned (.agg (vC r.1).toArray) ∧ Par A p v ts r.2 w' ∧ Kept [p] w w'
set_option maxHeartbeats 8000000 in
set_option maxRecDepth 100000 in
theorem value_any (A : Nat → Addr) (p : Nat) (v : Value) (ts : List Lx.Tok) (s : Sx.St) (w : World) (hE : Env A p v ts w) (hP : Par A p v ts s w) :
  Calls Tryz.prog 55 #[.pointer (some ⟨p, 0, none⟩)] w (ValPost A p v ts w (Sx.value ts s)) := by
 have Hv := Yq hE; have Hp := Yq hP; have Hplt := Yq hP.lt
 have Hsm := Yq hE.small
 obtain ⟨R, hR⟩ : ∃ R, R = Sx.value ts s := ⟨_, rfl⟩
 rw [← hR]
 have HR := Yq hR
 have hfd := field_num
 have hbd := val_build
 clear hR hE hP
 go_enter Tryz.func55, Tryz.ntmps55
 go_upto_region 1 with (first
  | (refine wpList_alloc_lay rfl 116 rfl zVl zeroVl ?_; (intro w1 gr hgr hBr hb1)))
 have HN := Yq (name_arr A p v ts s w1 (Hv.out.below (hb1.mono (Nat.le_of_lt Hplt.out))).vars (Hp.out.below hb1))
 have HE1 := Yq (Hv.out.below (hb1.mono (Nat.le_of_lt Hplt.out)))
 have Hb1 := Yq hb1; have HBr := Yq hBr; have Hgr := Yq hgr
 have Hne := Yq (show p < gr from Nat.lt_of_lt_of_le Hplt.out hgr)
 clear hb1 hBr hgr
 obtain ⟨N, hN⟩ : ∃ N, N = Sx.of ts 1 s := ⟨_, rfl⟩
 rw [← hN] at HN
 have HNe := Yq hN
 obtain ⟨x, s1⟩ := N
 simp only at HN
 clear hN
 go_upto_region 2 with (first
  | (go_at_call 52; (with_reducible refine HN.out.mono ?_); rintro e w2 ⟨rfl, hp2, hk2⟩; have HE2 := Yq (HE1.out.kept hk2 (Nat.lt_of_lt_of_le Hplt.out Hb1.out.size) (fun k hm => by rw [List.mem_singleton.1 hm]; exact Nat.le_refl _)); have HP2 := Yq hp2; have HK2 := Yq ((Kept.of_below Hb1.out).trans hk2); have HBr2 := Yq (hk2.blk HBr.out (by have := Hne.out; simp; omega)); clear hp2 hk2)
  | (refine wpList_alloc_lay rfl 80 rfl zT zeroT ?_; (intro w3 g5 hg5 hB5 hb3))
  | (refine wpList_store_all rfl 80 _ _ rfl g5 (tC x) rfl rfl zT hB5 infoT rfl (one_tC x) ?_; (intro w4 hB6 hgr4; have hb4 := Below.grown hb3 hgr4 hb3.size (fun _ e => by cases e; exact hg5); clear hb3 hgr4 hB5)))
 have d1 : w4.cell? ⟨g5, 1, none⟩ = some (.string (toB x.text)) := hB6.cell (o := 1) rfl
 have d3 : w4.cell? ⟨g5, 3, none⟩ = some (.int .i64 x.line) := hB6.cell (o := 3) rfl
 have d4 : w4.cell? ⟨g5, 4, none⟩ = some (.int .i64 x.col) := hB6.cell (o := 4) rfl
 have Hb4 := Yq hb4
 clear hB6 hg5 hb4
 go_upto_region 3 with (first
  | (refine wpList_alloc_lay rfl 116 rfl zVl zeroVl ?_; (intro w5 gv hgv hBv hb5))
  | (refine wpList_store_all rfl 116 _ _ rfl gv [.string (toB x.text), .int .i64 0, .int .i64 x.line, .int .i64 x.col] rfl rfl zVl hBv infoVl rfl ?_ ?_; (· exact one_vC ⟨x.text, 0, x.line, x.col⟩); (intro w6 hB6 hgr6; have hb6 := Below.grown hb5 hgr6 hb5.size (fun _ e => by cases e; exact hgv); clear hb5 hgr6 hBv)))
 have Hb6 : Hid (Below w2.heap.size w2 w6) := Yq (Hb4.out.trans (hb6.mono Hb4.out.size))
 have hgv2 : w2.heap.size ≤ gv := Nat.le_trans Hb4.out.size hgv
 have Hgv : Hid (Blk w6 gr zVl ∧ w.heap.size ≤ gv ∧ w.heap.size ≤ gr ∧ gr ≠ gv ∧ p < gv ∧ p < gr) := Yq ⟨HBr2.out.below Hb6.out HBr2.out.lt, Nat.le_trans HK2.out.size hgv2, Hgr.out, fun e => by have := HBr2.out.lt; omega, by have := Hplt.out; have := HK2.out.size; omega, Hne.out⟩
 have H6 : Hid (SAt A p gv v ts w6 s1 [.string (toB x.text), .int .i64 0, .int .i64 x.line, .int .i64 x.col] w6) := Yq ⟨HP2.out.below Hb6.out, HE2.out.below (Hb6.out.mono (by have := Hplt.out; have := HK2.out.size; omega)), hB6, Kept.refl _ _, Hgv.out.2.2.2.2.1, (show (4 : Nat) ≠ 3 by decide)⟩
 have HK6 : Hid (Kept [p] w w6) := Yq (HK2.out.trans (Kept.of_below Hb6.out))
 clear hB6 hgv hgv2 hb6 d1 d3 d4
 have HS := Yq (sign_any A p 61 v ts s1 w6 H6.out.env.vars H6.out.env.glt H6.out.par)
 go_wp2_with fail
 refine HS.out.mono ?_
 rintro e w7 ⟨rfl, hp7, hk7⟩
 have H7 := Yq (H6.out.call hp7 hk7)
 clear hp7 hk7
 have HT := Yq (takes_any A p 4 (by decide) v ts _ [45] w7 H7.out.par)
 obtain ⟨N, hN⟩ : ∃ N, N = Sx.takes ts 4 [45] (Sx.sign ts 61 s1) := ⟨_, rfl⟩
 rw [← hN] at HT
 have HTe := Yq hN
 obtain ⟨b, s2⟩ := N
 simp only at HT
 clear hN
 go_wp2_with fail
 refine HT.out.mono ?_
 rintro e w8 ⟨rfl, hp8, hk8⟩
 have H8 := Yq (H7.out.call hp8 hk8)
 clear hp8 hk8
 have HO := Yq (of_arr A p 2 (by decide) v ts s2 w8 H8.out.env.vars H8.out.par)
 have hnum := of_num Hsm.out 2 s2
 obtain ⟨M, hM⟩ : ∃ M, M = Sx.of ts 2 s2 := ⟨_, rfl⟩
 rw [← hM] at HO hnum
 have HMe := Yq hM
 obtain ⟨y, s3⟩ := M
 simp only at HO hnum
 clear hM
 go_wp2_with fail
 refine HO.out.mono ?_
 rintro e w9 ⟨rfl, hp9, hk9⟩
 have H9 := Yq (H8.out.call hp9 hk9)
 clear hp9 hk9
 have HB9 := H9.out.blk
 go_upto_region 6 with (first
  | (refine wpList_store_blk1 rfl 3 _ _ rfl gv 1 (.int .i64 y.num) rfl rfl _ HB9 info_int1 ?_ rfl ?_; (· show 1 + 1 ≤ 4; decide); (intro w10 hB10 hgr10 hsz)))
 have H10 : Hid (SAt A p gv v ts w6 s3 (vC ⟨x.text, y.num, x.line, x.col⟩) w10) := Yq (H9.out.wrote hB10 (show (4 : Nat) ≠ 3 by decide) hgr10)
 have HEnd : Hid (R = (⟨x.text, if b then -(y.num : Int) else y.num, x.line, x.col⟩, Sx.sign ts 59 s3)) := Yq (by
  rw [HR.out]; unfold Sx.value
  have e1 := HNe.out; have e2 := HTe.out; have e3 := HMe.out
  rw [← e1]; dsimp only; rw [← e2]; dsimp only; rw [← e3])
 clear hB10 hgr10 hsz HB9
 cases b
 ·skip
  have HS2 := Yq (sign_any A p 59 v ts s3 w10 H10.out.env.vars H10.out.env.glt H10.out.par)
  go_wp2_with fail
  refine HS2.out.mono ?_
  rintro e w13 ⟨rfl, hp13, hk13⟩
  have H13 := Yq (H10.out.call hp13 hk13)
  clear hp13 hk13
  have HB13 := H13.out.blk.whole
  have HBr := H13.out.kept.blk Hgv.out.1 (by have := Hgv.out; simp; omega)
  go_wp2_with (first
   | (refine wpList_load_seg rfl 116 _ rfl _ _ rfl _ _ HB13 Tryz.underlying116 rfl infoVl ?_)
   | (refine wpList_store_all rfl 116 _ _ rfl gr (vC ⟨x.text, y.num, x.line, x.col⟩) rfl rfl zVl HBr infoVl rfl (one_vC _) ?_; (intro w14 hB14 hgr14)))
  rw [HEnd.out]
  refine bodyPost_ret (v := .agg (vC ⟨x.text, y.num, x.line, x.col⟩).toArray) ?_ rfl ⟨rfl, (Par.wrote H13.out.env H13.out.par HBr (by decide) hgr14 Hgv.out.2.2.2.2.2).1, ?_⟩
  ·exact results_blk (p := 2) (ty := 116) rfl _ _ gr (vC ⟨x.text, y.num, x.line, x.col⟩) rfl hB14 _ Tryz.underlying116 rfl infoVl
  ·exact ((HK6.out.trans2 H13.out.kept Hgv.out.2.1).then_new hgr14 Hgv.out.2.2.1)
 ·have c1 : w10.cell? ⟨gv, 1, none⟩ = some (.int .i64 y.num) := H10.out.blk.cell (o := 1) rfl
  have HB10 := H10.out.blk
  have hnum2 : (y.num : Int) ≤ 2147483648 := by omega
  go_upto_region 8 with (first
   | (refine wpList_store_blk1 rfl 3 _ _ rfl gv 1 (.int .i64 (-(y.num : Int))) rfl rfl _ HB10 info_int1 ?_ rfl ?_; (· show 1 + 1 ≤ 4; decide); (intro w11 hB11 hgr11 hsz)))
  have H11 : Hid (SAt A p gv v ts w6 s3 (vC ⟨x.text, -(y.num : Int), x.line, x.col⟩) w11) := Yq (H10.out.wrote hB11 (show (4 : Nat) ≠ 3 by decide) hgr11)
  clear hB11 hgr11 hsz HB10 c1
  have HS2 := Yq (sign_any A p 59 v ts s3 w11 H11.out.env.vars H11.out.env.glt H11.out.par)
  go_wp2_with fail
  refine HS2.out.mono ?_
  rintro e w13 ⟨rfl, hp13, hk13⟩
  have H13 := Yq (H11.out.call hp13 hk13)
  clear hp13 hk13
  have HB13 := H13.out.blk.whole
  have HBr := H13.out.kept.blk Hgv.out.1 (by have := Hgv.out; simp; omega)
  go_wp2_with (first
   | (refine wpList_load_seg rfl 116 _ rfl _ _ rfl _ _ HB13 Tryz.underlying116 rfl infoVl ?_)
   | (refine wpList_store_all rfl 116 _ _ rfl gr (vC ⟨x.text, -(y.num : Int), x.line, x.col⟩) rfl rfl zVl HBr infoVl rfl (one_vC _) ?_; (intro w14 hB14 hgr14)))
  rw [HEnd.out]
  refine bodyPost_ret (v := .agg (vC ⟨x.text, -(y.num : Int), x.line, x.col⟩).toArray) ?_ rfl ⟨rfl, (Par.wrote H13.out.env H13.out.par HBr (by decide) hgr14 Hgv.out.2.2.2.2.2).1, ?_⟩
  ·exact results_blk (p := 2) (ty := 116) rfl _ _ gr (vC ⟨x.text, -(y.num : Int), x.line, x.col⟩) rfl hB14 _ Tryz.underlying116 rfl infoVl
  ·exact ((HK6.out.trans2 H13.out.kept Hgv.out.2.1).then_new hgr14 Hgv.out.2.2.1)
end Go.Proofs.YtpcfdngnmigkfaaGreatDoor
