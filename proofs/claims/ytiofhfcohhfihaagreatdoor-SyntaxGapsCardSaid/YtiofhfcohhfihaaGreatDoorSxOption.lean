/- Package syntax, walked: one option of a field. -/
import Derived.Test.YtiofhfcohhfihaaGreatDoorSxEnv
namespace Go.Proofs.YtiofhfcohhfihaaGreatDoor
open Go.RowKit
set_option linter.unusedVariables false
set_option linter.unusedSimpArgs false

/-- the parser at s, the field's block at f: since w0 only these two were turned -/
structure FAt (A : Nat → Addr) (p g : Nat) (v : Value) (ts : List Lx.Tok) (w0 : World) (s : Sx.St) (f : Sx.Fld) (w : World) : Prop where
  par : Par A p v ts s w
  env : Env A p v ts w
  blk : Blk w g (fC f)
  kept : Kept [p, g] w0 w
  lt : p < g
theorem FAt.call {A : Nat → Addr} {p g : Nat} {v : Value} {ts : List Lx.Tok} {w0 w w' : World} {s s' : Sx.St} {f : Sx.Fld} (h : FAt A p g v ts w0 s f w) (hp : Par A p v ts s' w') (hk : Kept [p] w w') : FAt A p g v ts w0 s' f w' :=
  ⟨hp, h.env.kept hk h.par.lt (fun k hm => by rw [List.mem_singleton.1 hm]; exact Nat.le_refl _), hk.blk h.blk (by have := h.lt; simp; omega), h.kept.trans (hk.mono (fun k hm _ => by rw [List.mem_singleton.1 hm]; simp)), h.lt⟩
theorem FAt.wrote {A : Nat → Addr} {p g : Nat} {v : Value} {ts : List Lx.Tok} {w0 w w' : World} {s : Sx.St} {f f' : Sx.Fld} (h : FAt A p g v ts w0 s f w) (hB : Blk w' g (fC f')) (hg : w.grownBy w' (some g)) : FAt A p g v ts w0 s f' w' :=
  have h1 := Par.wrote h.env h.par h.blk (by rw [fC_len]; decide) hg h.lt
  ⟨h1.1, h1.2, hB, h.kept.trans (Kept.of_grown hg (by simp)), h.lt⟩
theorem empty_beq (a : Lx.Bs) : ((toB a).toList == (⟨#[]⟩ : ByteArray).toList) = decide (a = []) := toB_beq a []
theorem info_int1 : (Tryz.prog.info? 3).map (·.size) = some 1 := by kernel_rfl
theorem info_str1 : (Tryz.prog.info? 9).map (·.size) = some 1 := by kernel_rfl
theorem opt_packed {ts : List Lx.Tok} {f : Sx.Fld} {s : Sx.St} (h : f.packed = 0) (hs : Sx.sees ts 1 Sx.bPacked s = true) : Sx.option ts f s =
    if Sx.sees ts 1 Sx.bTrue (Sx.sign ts 61 s.next) then ({ f with packed := 1 }, (Sx.sign ts 61 s.next).next) else ({ f with packed := 2 }, Sx.must ts 1 Sx.bFalse (Sx.sign ts 61 s.next)) := by
  unfold Sx.option; rw [if_pos ⟨h, hs⟩]
theorem opt_key {ts : List Lx.Tok} {f : Sx.Fld} {s : Sx.St} (h : ¬ (f.packed = 0 ∧ Sx.sees ts 1 Sx.bPacked s = true)) (h2 : f.key = []) (hs : Sx.sees ts 1 Sx.bKey s = true) : Sx.option ts f s = ({ f with key := (Sx.of ts 1 (Sx.sign ts 61 s.next)).1.text }, (Sx.of ts 1 (Sx.sign ts 61 s.next)).2) := by
  unfold Sx.option; rw [if_neg h, if_pos ⟨h2, hs⟩]
theorem opt_none {ts : List Lx.Tok} {f : Sx.Fld} {s : Sx.St} (h : ¬ (f.packed = 0 ∧ Sx.sees ts 1 Sx.bPacked s = true)) (h2 : ¬ (f.key = [] ∧ Sx.sees ts 1 Sx.bKey s = true)) : Sx.option ts f s = (f, Sx.fail ts s) := by
  unfold Sx.option; rw [if_neg h, if_neg h2]

set_option maxHeartbeats 4000000 in
set_option maxRecDepth 100000 in
theorem option_any (A : Nat → Addr) (p g : Nat) (v : Value) (ts : List Lx.Tok) (s : Sx.St) (f : Sx.Fld) (w w0 : World) (h : FAt A p g v ts w0 s f w) :
    Calls Tryz.prog 153 #[.pointer (some ⟨p, 0, none⟩), .pointer (some ⟨g, 0, none⟩)] w fun e w' => e = .returned (.tuple #[]) ∧ FAt A p g v ts w0 (Sx.option ts f s).2 (Sx.option ts f s).1 w' := by
  have H := Lib.hid h
  have Hfl := Lib.hid (fun s1 w1 (h1 : FAt A p g v ts w0 s1 f w1) => fail_any A p v ts s1 w1 h1.env.vars h1.par)
  have Hs := Lib.hid (fun s1 w1 (h1 : FAt A p g v ts w0 s1 f w1) => sign_any A p 61 v ts s1 w1 h1.env.vars h1.env.glt h1.par)
  have Hn := Lib.hid (fun s1 w1 (h1 : FAt A p g v ts w0 s1 f w1) => name_arr A p v ts s1 w1 h1.env.vars h1.par)
  have Hm := Lib.hid (fun s1 w1 f1 (h1 : FAt A p g v ts w0 s1 f1 w1) => must_any A p Sx.bFalse v ts s1 w1 h1.env.vars h1.env.glt h1.par)
  have Hw := Lib.hid (fun s1 w1 f1 t (h1 : FAt A p g v ts w0 s1 f1 w1) => pword_any A p v ts s1 t w1 h1.par)
  have hfd := field_text
  have c6 : w.cell? ⟨g, 6, none⟩ = some (.int .i64 f.packed) := h.blk.cell (o := 6) rfl
  have c3 : w.cell? ⟨g, 3, none⟩ = some (.string (toB f.key)) := h.blk.cell (o := 3) rfl
  clear h
  have hw0 : ∀ s1 t, Sx.takes ts 1 t s1 = if Sx.sees ts 1 t s1 then (true, s1.next) else (false, s1) := fun _ _ => rfl
  by_cases hpk : f.packed = 0
  · have HW := Lib.hid (Hw.out s w f Sx.bPacked H.out)
    rw [hw0] at HW
    replace c6 : w.cell? ⟨g, 6, none⟩ = some (.int .i64 0) := by rw [hpk] at c6; exact c6
    cases hs : Sx.sees ts 1 Sx.bPacked s
    · have hno : ¬ (f.packed = 0 ∧ Sx.sees ts 1 Sx.bPacked s = true) := fun e => by rw [hs] at e; exact absurd e.2 (by decide)
      rw [hs] at HW
      simp only [↓reduceIte, Bool.false_eq_true] at HW
      clear hs c3
      go_enter Tryz.func153, Tryz.ntmps153
      go_wp2_with fail
      refine HW.out.mono ?_
      rintro e w1 ⟨rfl, hp1, hk1⟩
      have H1 := Lib.hid (H.out.call hp1 hk1)
      clear hp1 hk1 c6
      have c3 : w1.cell? ⟨g, 3, none⟩ = some (.string (toB f.key)) := H1.out.blk.cell (o := 3) rfl
      by_cases hk : f.key = []
      · replace c3 : w1.cell? ⟨g, 3, none⟩ = some (.string ⟨#[]⟩) := by rw [hk] at c3; exact c3
        have HK := Lib.hid (Hw.out s w1 f Sx.bKey H1.out)
        rw [hw0] at HK
        cases hs2 : Sx.sees ts 1 Sx.bKey s
        · rw [hs2] at HK
          simp only [↓reduceIte, Bool.false_eq_true] at HK
          have HO := Lib.hid (opt_none hno (fun e => by rw [hs2] at e; exact absurd e.2 (by decide)))
          clear hs2 hw0 hno
          go_wp2_with fail
          refine HK.out.mono ?_
          rintro e w7 ⟨rfl, hp7, hk7⟩
          have H7 := Lib.hid (H1.out.call hp7 hk7)
          clear hp7 hk7 c3
          have HF := Lib.hid (Hfl.out _ w7 H7.out)
          go_wp2_with fail
          refine HF.out.mono ?_
          rintro e w8 ⟨rfl, hp8, hk8⟩
          have H8 := Lib.hid (H7.out.call hp8 hk8)
          clear hp8 hk8
          go_wp2_with fail
          go_end0
          rw [HO.out]; exact ⟨rfl, H8.out⟩
        · rw [hs2] at HK
          simp only [↓reduceIte, Bool.false_eq_true] at HK
          have HO := Lib.hid (opt_key hno hk hs2)
          clear hs2 hw0 hno
          go_wp2_with fail
          refine HK.out.mono ?_
          rintro e w7 ⟨rfl, hp7, hk7⟩
          have H7 := Lib.hid (H1.out.call hp7 hk7)
          clear hp7 hk7 c3
          have HS := Lib.hid (Hs.out _ w7 H7.out)
          go_wp2_with fail
          refine HS.out.mono ?_
          rintro e w8 ⟨rfl, hp8, hk8⟩
          have H8 := Lib.hid (H7.out.call hp8 hk8)
          clear hp8 hk8
          have HN := Lib.hid (Hn.out _ w8 H8.out)
          generalize Sx.of ts 1 (Sx.sign ts 61 s.next) = r at *
          obtain ⟨x, s9⟩ := r
          go_wp2_with fail
          refine HN.out.mono ?_
          rintro e w9 ⟨rfl, hp9, hk9⟩
          have H9 := Lib.hid (H8.out.call hp9 hk9)
          clear hp9 hk9
          have HB9 := H9.out.blk
          go_wp2_with (first
            | (refine wpList_store_blk1 rfl 9 _ _ rfl g 3 (.string (toB x.text)) rfl rfl _ HB9 info_str1 ?_ rfl ?_; (· show 3 + 1 ≤ 10; decide); (intro w10 hB10 hgr hsz)))
          have H10 : Hid (FAt A p g v ts w0 _ { f with key := x.text } w10) := H9.out.wrote hB10 hgr
          go_end0
          rw [HO.out]; exact ⟨rfl, H10.out⟩
      · have HO := Lib.hid (opt_none hno (fun e => hk e.1))
        have hke := empty_beq f.key
        rw [decide_eq_false hk] at hke
        have hke2 : ((toB f.key).toList == []) = false := by rw [show (⟨#[]⟩ : ByteArray).toList = [] from by rw [Lib.toList_data]] at hke; exact hke
        have HF := Lib.hid (Hfl.out _ w1 H1.out)
        clear hk hw0 hno Hw Hm Hn Hs
        go_wp2_with fail
        refine HF.out.mono ?_
        rintro e w8 ⟨rfl, hp8, hk8⟩
        have H8 := Lib.hid (H1.out.call hp8 hk8)
        clear hp8 hk8
        go_wp2_with fail
        go_end0
        rw [HO.out]; exact ⟨rfl, H8.out⟩
    · have HO := Lib.hid (opt_packed hpk hs)
      rw [hs] at HW
      simp only [↓reduceIte, Bool.false_eq_true] at HW
      have hw1 := hw0 (Sx.sign ts 61 s.next) Sx.bTrue
      clear hs hw0 c3
      go_enter Tryz.func153, Tryz.ntmps153
      go_wp2_with fail
      refine HW.out.mono ?_
      rintro e w1 ⟨rfl, hp1, hk1⟩
      have H1 := Lib.hid (H.out.call hp1 hk1)
      clear hp1 hk1 c6
      have HS := Lib.hid (Hs.out _ w1 H1.out)
      go_wp2_with fail
      refine HS.out.mono ?_
      rintro e w2 ⟨rfl, hp2, hk2⟩
      have H2 := Lib.hid (H1.out.call hp2 hk2)
      clear hp2 hk2
      have HB2 := H2.out.blk
      go_upto_region 4 with (first
        | (refine wpList_store_blk1 rfl 3 _ _ rfl g 6 (.int .i64 1) rfl rfl _ HB2 info_int1 ?_ rfl ?_; (· show 6 + 1 ≤ 10; decide); (intro w3 hB3 hgr hsz)))
      have H3 : Hid (FAt A p g v ts w0 _ { f with packed := 1 } w3) := H2.out.wrote hB3 hgr
      have HT := Lib.hid (Hw.out _ w3 { f with packed := 1 } Sx.bTrue H3.out)
      rw [hw1] at HT
      clear hB3 hgr hsz HB2 hw1
      cases hs2 : Sx.sees ts 1 Sx.bTrue (Sx.sign ts 61 s.next)
      · rw [hs2] at HT
        simp only [↓reduceIte, Bool.false_eq_true] at HT
        rw [hs2] at HO
        clear hs2
        go_wp2_with fail
        refine HT.out.mono ?_
        rintro e w4 ⟨rfl, hp4, hk4⟩
        have H4 := Lib.hid (H3.out.call hp4 hk4)
        clear hp4 hk4
        have HM := Lib.hid (Hm.out _ w4 _ H4.out)
        go_wp2_with fail
        refine HM.out.mono ?_
        rintro e w5 ⟨rfl, hp5, hk5⟩
        have H5 := Lib.hid (H4.out.call hp5 hk5)
        clear hp5 hk5
        have HB5 := H5.out.blk
        go_wp2_with (first
          | (refine wpList_store_blk1 rfl 3 _ _ rfl g 6 (.int .i64 2) rfl rfl _ HB5 info_int1 ?_ rfl ?_; (· show 6 + 1 ≤ 10; decide); (intro w6 hB6 hgr hsz)))
        have H6 : Hid (FAt A p g v ts w0 _ { f with packed := 2 } w6) := H5.out.wrote hB6 hgr
        go_end0
        rw [HO.out]; exact ⟨rfl, H6.out⟩
      · rw [hs2] at HT
        simp only [↓reduceIte, Bool.false_eq_true] at HT
        rw [hs2] at HO
        clear hs2
        go_wp2_with fail
        refine HT.out.mono ?_
        rintro e w4 ⟨rfl, hp4, hk4⟩
        have H4 := Lib.hid (H3.out.call hp4 hk4)
        clear hp4 hk4
        go_wp2_with fail
        go_end0
        rw [HO.out]; exact ⟨rfl, H4.out⟩
  · have hno : ¬ (f.packed = 0 ∧ Sx.sees ts 1 Sx.bPacked s = true) := fun e => hpk e.1
    have hp1 : ¬ (f.packed : Int) = 0 := by omega
    have hp2 : ((f.packed : Int) == 0) = false := beq_eq_false_iff_ne.2 hp1
    by_cases hk : f.key = []
    · replace c3 : w.cell? ⟨g, 3, none⟩ = some (.string ⟨#[]⟩) := by rw [hk] at c3; exact c3
      have HK := Lib.hid (Hw.out s w f Sx.bKey H.out)
      rw [hw0] at HK
      cases hs2 : Sx.sees ts 1 Sx.bKey s
      · rw [hs2] at HK
        simp only [↓reduceIte, Bool.false_eq_true] at HK
        have HO := Lib.hid (opt_none hno (fun e => by rw [hs2] at e; exact absurd e.2 (by decide)))
        clear hs2 hw0 hno
        go_enter Tryz.func153, Tryz.ntmps153
        go_wp2_with fail
        refine HK.out.mono ?_
        rintro e w7 ⟨rfl, hp7, hk7⟩
        have H7 := Lib.hid (H.out.call hp7 hk7)
        clear hp7 hk7 c3
        have HF := Lib.hid (Hfl.out _ w7 H7.out)
        go_wp2_with fail
        refine HF.out.mono ?_
        rintro e w8 ⟨rfl, hp8, hk8⟩
        have H8 := Lib.hid (H7.out.call hp8 hk8)
        clear hp8 hk8
        go_wp2_with fail
        go_end0
        rw [HO.out]; exact ⟨rfl, H8.out⟩
      · rw [hs2] at HK
        simp only [↓reduceIte, Bool.false_eq_true] at HK
        have HO := Lib.hid (opt_key hno hk hs2)
        clear hs2 hw0 hno
        go_enter Tryz.func153, Tryz.ntmps153
        go_wp2_with fail
        refine HK.out.mono ?_
        rintro e w7 ⟨rfl, hp7, hk7⟩
        have H7 := Lib.hid (H.out.call hp7 hk7)
        clear hp7 hk7 c3
        have HS := Lib.hid (Hs.out _ w7 H7.out)
        go_wp2_with fail
        refine HS.out.mono ?_
        rintro e w8 ⟨rfl, hp8, hk8⟩
        have H8 := Lib.hid (H7.out.call hp8 hk8)
        clear hp8 hk8
        have HN := Lib.hid (Hn.out _ w8 H8.out)
        generalize Sx.of ts 1 (Sx.sign ts 61 s.next) = r at *
        obtain ⟨x, s9⟩ := r
        go_wp2_with fail
        refine HN.out.mono ?_
        rintro e w9 ⟨rfl, hp9, hk9⟩
        have H9 := Lib.hid (H8.out.call hp9 hk9)
        clear hp9 hk9
        have HB9 := H9.out.blk
        go_wp2_with (first
          | (refine wpList_store_blk1 rfl 9 _ _ rfl g 3 (.string (toB x.text)) rfl rfl _ HB9 info_str1 ?_ rfl ?_; (· show 3 + 1 ≤ 10; decide); (intro w10 hB10 hgr hsz)))
        have H10 : Hid (FAt A p g v ts w0 _ { f with key := x.text } w10) := H9.out.wrote hB10 hgr
        go_end0
        rw [HO.out]; exact ⟨rfl, H10.out⟩
    · have HO := Lib.hid (opt_none hno (fun e => hk e.1))
      have hke := empty_beq f.key
      rw [decide_eq_false hk] at hke
      have hke2 : ((toB f.key).toList == []) = false := by rw [show (⟨#[]⟩ : ByteArray).toList = [] from by rw [Lib.toList_data]] at hke; exact hke
      have HF := Lib.hid (Hfl.out _ w H.out)
      clear hk hw0 hno Hw Hm Hn Hs
      go_enter Tryz.func153, Tryz.ntmps153
      go_wp2_with fail
      refine HF.out.mono ?_
      rintro e w8 ⟨rfl, hp8, hk8⟩
      have H8 := Lib.hid (H.out.call hp8 hk8)
      clear hp8 hk8
      go_wp2_with fail
      go_end0
      rw [HO.out]; exact ⟨rfl, H8.out⟩

end Go.Proofs.YtiofhfcohhfihaaGreatDoor
