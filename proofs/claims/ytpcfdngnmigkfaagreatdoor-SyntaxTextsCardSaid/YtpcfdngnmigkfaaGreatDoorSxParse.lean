/- Package syntax, walked: the file of tokens, the file of a text. -/
import Derived.Test.YtpcfdngnmigkfaaGreatDoorSxFile
set_option linter.unusedVariables false
set_option linter.unusedSimpArgs false
namespace Go.Proofs.YtpcfdngnmigkfaaGreatDoor
open Go.RowKit
theorem fSxParseA7_62 {P : Program} {M : Region.Mode} {O : Array Oper} {Q : Exit → Act → World → Prop} {Y Z : World → Prop} {f F : Nat} {a b c e g i j : Bool} {k l m n o p q r s t u v x y z a0 a1 a2 a3 a4 a5 a6 a7 a8 a9 aA aB aC aD aE aF aG aH aI aJ aK aL aM aN aO aP aQ aR aS aT aU aV aW aX aY aZ b0 b1 b2 b3 b4 b5 b6 b7 b8 b9 bA : Value} {d} {w : World} (h : wpAnyG P M O Q Y Z f F #[a,b,c,e,g,i,j] ⟨#[k,l,m,n,o,p,q,r,s,t,u,v,x,y,z,a0,a1,a2,a3,a4,a5,a6,a7,a8,a9,aA,aB,aC,aD,aE,aF,aG,aH,aI,aJ,aK,aL,aM,aN,aO,aP,aQ,aR,aS,aT,aU,aV,aW,aX,aY,aZ,b0,b1,b2,b3,b4,b5,b6,b7,b8,b9,bA],d⟩ w) : wpAnyG P M O Q Y Z f F #[a,b,c,e,g,i,j] ⟨#[k,l,m,n,o,p,q,r,s,t,u,v,x,y,z,a0,a1,a2,a3,a4,a5,a6,a7,a8,a9,aA,aB,aC,aD,aE,aF,aG,aH,aI,aJ,aK,aL,aM,aN,aO,aP,aQ,aR,aS,aT,aU,aV,aW,aX,aY,aZ,b0,b1,b2,b3,b4,b5,b6,b7,b8,b9,bA],d⟩ w := h
theorem fSxParseA8_62 {P : Program} {M : Region.Mode} {O : Array Oper} {Q : Exit → Act → World → Prop} {Y Z : World → Prop} {f F : Nat} {a b c e g i j k : Bool} {l m n o p q r s t u v x y z a0 a1 a2 a3 a4 a5 a6 a7 a8 a9 aA aB aC aD aE aF aG aH aI aJ aK aL aM aN aO aP aQ aR aS aT aU aV aW aX aY aZ b0 b1 b2 b3 b4 b5 b6 b7 b8 b9 bA bB : Value} {d} {w : World} (h : wpAnyG P M O Q Y Z f F #[a,b,c,e,g,i,j,k] ⟨#[l,m,n,o,p,q,r,s,t,u,v,x,y,z,a0,a1,a2,a3,a4,a5,a6,a7,a8,a9,aA,aB,aC,aD,aE,aF,aG,aH,aI,aJ,aK,aL,aM,aN,aO,aP,aQ,aR,aS,aT,aU,aV,aW,aX,aY,aZ,b0,b1,b2,b3,b4,b5,b6,b7,b8,b9,bA,bB],d⟩ w) : wpAnyG P M O Q Y Z f F #[a,b,c,e,g,i,j,k] ⟨#[l,m,n,o,p,q,r,s,t,u,v,x,y,z,a0,a1,a2,a3,a4,a5,a6,a7,a8,a9,aA,aB,aC,aD,aE,aF,aG,aH,aI,aJ,aK,aL,aM,aN,aO,aP,aQ,aR,aS,aT,aU,aV,aW,aX,aY,aZ,b0,b1,b2,b3,b4,b5,b6,b7,b8,b9,bA,bB],d⟩ w := h
theorem fil_build (t : ByteArray) (w : World) : (Instr.build 26 #[(0, .string t)]).run Tryz.prog w = .ok (.agg #[.string t, .slice none 0 0, .slice none 0 0]) w := by kernel_rfl
theorem fil_build0 (w : World) : (Instr.build 26 #[]).run Tryz.prog w = .ok (.agg #[.string ⟨#[]⟩, .slice none 0 0, .slice none 0 0]) w := by kernel_rfl
theorem par_build (a : Option Addr) (n c : Nat) (w : World) : (Instr.build 86 #[(0, .slice a n c)]).run Tryz.prog w = .ok (.agg #[.slice a n c, .int .i64 0, .nilIface]) w := by kernel_rfl
def ParsePost (A : Nat → Addr) (w : World) (r : Sx.Fil × Option (Nat × Nat × Nat)) (e : Ending) (w' : World) : Prop :=
 Below w.heap.size w w' ∧ match r.2 with
 | none => ∃ cs, e = .returned (.tuple #[.agg cs.toArray, .nilIface]) ∧ FilR (fragU w' w.heap.size []) r.1 cs
 | some x => ∃ g, e = .returned (.tuple #[.agg zFl.toArray, .iface 73 (.pointer (some ⟨g, 0, none⟩))]) ∧ Blk w' g [.int .i64 (x.2.1 : Nat), .int .i64 (x.2.2 : Nat), errV (A (x.1 - 1))]
structure VarsD (A : Nat → Addr) (w : World) : Prop where
 vars : Vars A w
 depth : w.cell? ⟨2, 0, none⟩ = some (errV (A 7))
theorem results_blk2 {P : Program} {fn : Func} {p u : Tmp} {ty : TypeId} (h : fn.results = #[.cell p ty, .tmp u]) (tmps : Array Value) (w : World) (g : Nat) (cs : List Value) (hp : tmps.getD p undef = .pointer (some ⟨g, 0, none⟩)) (hb : Blk w g cs) (d : TypeDesc)
  (hu : P.underlying ty = some d) (hd : (match d with | .struct _ | .array _ _ => true | _ => false) = true) (hi : (P.info? ty).map (·.size) = some cs.length) :
  (results fn tmps).run P w = .ok (.tuple #[.agg cs.toArray, tmps.getD u undef]) w := by
 obtain ⟨t, hb⟩ := hb
 have hp' : tmps[p]?.getD undef = .pointer (some ⟨g, 0, none⟩) := by simpa using hp
 simp [results, h, hp', asAddr, run_loadVar_row w g t ty cs.toArray (0, 0) d hb hu hd (by simpa using hi), Sem.run_bind, Result.andThen]
theorem since_all {w w2 w5 wr w30 : World} {p gf gr : Nat} (h1 : Below w.heap.size w w2) (h2 : Kept [p] w2 w5) (h3 : Kept [p, gf] w5 wr) (h4 : wr.grownBy w30 (some gr)) (hp : w.heap.size ≤ p) (hf : w.heap.size ≤ gf) (hr : w.heap.size ≤ gr) : Below w.heap.size w w30 := by
 have a := h1.trans (h2.below h1.size (fun k hk => by rw [List.mem_singleton.1 hk]; exact hp))
 have b := a.trans (h3.below a.size (fun k hk => by simp only [List.mem_cons, List.not_mem_nil, or_false] at hk; rcases hk with rfl | rfl; exact hp; exact hf))
 exact Below.grown b h4 b.size (fun k e => by cases e; exact hr)
theorem files_step {ts : List Lx.Tok} {n : Nat} {f : Sx.Fil} {s : Sx.St} {O : Sx.Fil × Sx.St} (h : O = Sx.files ts n f s) (hF : s.err = none → ts.length + 1 ≤ s.pos + n) (hp : s.pos ≤ ts.length) :
  ((s.err.isSome = true ∨ ts.length ≤ s.pos) → O = (f, s)) ∧ (¬ (s.err.isSome = true ∨ ts.length ≤ s.pos) → ∃ n', n = n' + 1 ∧ O = (if Sx.sees ts 4 [59] s then Sx.files ts n' f s.next else if Sx.sees ts 1 Sx.bMessage s then Sx.files ts n' { f with msgs := f.msgs ++ [(Sx.message ts 0 s.next).1] } (Sx.message ts 0 s.next).2 else if Sx.sees ts 1 Sx.bEnum s then Sx.files ts n' { f with enums := f.enums ++ [(Sx.enum ts s.next).1] } (Sx.enum ts s.next).2 else Sx.files ts n' f (Sx.fail ts s))) := by
 constructor
 ·intro hc
  cases n with
  | zero => rw [h]; rfl
  | succ n => rw [h, Sx.files, if_pos hc]
 ·intro hc
  have he : s.err = none := by
   cases he : s.err with
   | none => rfl
   | some x => exact absurd (.inl (by rw [he]; rfl)) hc
  have h1 := hF he
  obtain ⟨n', rfl⟩ : ∃ n', n = n' + 1 := ⟨n - 1, by omega⟩
  exact ⟨n', rfl, by rw [h, Sx.files, if_neg hc]⟩
theorem message_go (ts : List Lx.Tok) (s : Sx.St) : Sx.GoesN 1 s (Sx.message ts 0 s).2 := Sx.messageBy_go ts (Sx.parts_go ts _) 0 s
set_option maxHeartbeats 16000000 in
set_option maxRecDepth 100000 in
theorem parse_any (A : Nat → Addr) (v : Value) (ts : List Lx.Tok) (w : World) (hV : VarsD A w) (hS : Small ts) (hF : FlatV tC (frag w) v ts) :
  Calls Tryz.prog 11 #[v] w (ParsePost A w (Sx.parse ts)) := by
 have Hsm := Yq hS
 obtain ⟨R, hR⟩ : ∃ R, R = Sx.parse ts := ⟨_, rfl⟩
 rw [← hR]
 unfold Sx.parse at hR
 have HR := Yq hR
 obtain ⟨a, cap, rfl, hlc, hcm, _⟩ := hF.len
 have HV := Yq hV; have HFl := Yq hF
 have hbd := fil_build; have hbd0 := fil_build0; have hbp := par_build
 have hfew := hS.few
 clear hR hV hS hF
 go_enter Tryz.func11, Tryz.ntmps11
 go_upto_region 1 with (first
  | (refine wpList_alloc_lay rfl 26 rfl zFl zeroFl ?_; (intro w1 gr hgr hBr hb1)))
 go_upto_region 2 with (first
  | (refine wpList_box_lay rfl 86 _ rfl [.slice a ts.length cap, .int .i64 0, .nilIface] rfl ?_; (intro w2 p hp hB2 hb2)))
 have Hb2 : Hid (Below w.heap.size w w2) := Yq (hb1.trans (hb2.mono hb1.size))
 have HE2 : Hid (Env A p (.slice a ts.length cap) ts w2) := Yq ⟨HV.out.vars.below Hb2.out, by have h1 := HV.out.vars.lt; have h2 := hb1.size; exact ⟨by omega, by omega, by omega, by omega, by omega⟩, (Hb2.out.cell (p := ⟨_, _, _⟩) (World.block_lt_of_cell? w _ HV.out.depth)).trans HV.out.depth, by have h1 := World.block_lt_of_cell? w _ HV.out.depth; have h2 := hb1.size; exact Nat.lt_of_lt_of_le h1 (Nat.le_trans h2 hp),
  HFl.out.mono (fun k o e => by
   unfold fragB
   have hk := heap_lt e
   rw [if_pos (by have := hb1.size; omega)]
   exact (Hb2.out.block k hk).trans e), Hsm.out⟩
 have HP2 : Hid (Par A p (.slice a ts.length cap) ts ⟨0, none⟩ w2) := Yq (Par.again (ev := .nilIface) HE2.out hB2 rfl (Nat.zero_le _))
 have Hgr : Hid (Blk w2 gr zFl ∧ gr < p ∧ w.heap.size ≤ gr ∧ p < w2.heap.size) := Yq ⟨hBr.below hb2 hBr.lt, Nat.lt_of_lt_of_le hBr.lt hp, hgr, hB2.lt⟩
 have HH := Yq (head_any A p _ ts ⟨0, none⟩ w2 HE2.out HP2.out)
 obtain ⟨hd, hhd⟩ : ∃ z, z = Sx.head ts ⟨0, none⟩ := ⟨_, rfl⟩
 rw [← hhd] at HH
 replace HR := HR.out
 rw [← hhd] at HR
 replace HR := Yq HR
 obtain ⟨pk, s3⟩ := hd
 simp only at HH
 clear hb1 hb2 hgr hBr hp hB2 hhd hlc
 go_upto_region 3 with (first
  | (go_at_call 23; (with_reducible refine HH.out.mono ?_); rintro e w3 ⟨rfl, hp3, hk3⟩)
  | (refine wpList_alloc_lay rfl 26 rfl zFl zeroFl ?_; (intro w4 gf hgf hB4 hb4))
  | (refine wpList_store_all rfl 26 _ _ rfl gf [.string (toB pk), .slice none 0 0, .slice none 0 0] rfl rfl zFl hB4 infoFl rfl ?_ ?_; (· intro u hu; simp only [List.mem_cons, List.not_mem_nil, or_false] at hu; rcases hu with rfl | rfl | rfl <;> rfl); (intro w5 hB5 hgr5; have hb5 := Below.grown hb4 hgr5 hb4.size (fun _ e => by cases e; exact hgf); clear hb4 hgr5 hB4)))
 have HK5 : Hid (Kept [p] w2 w5) := Yq (hk3.trans (Kept.of_below hb5))
 have Hgf : Hid (p < gf ∧ gr < gf ∧ w2.heap.size ≤ gf) := Yq (by have h1 := Hgr.out; have h2 := hk3.size; exact ⟨by omega, by omega, by omega⟩)
 have H5 : Hid (LAt A p w5.heap.size gf (.slice a ts.length cap) ts w5 s3 ⟨pk, .slice none 0 0, .slice none 0 0, [], [], [], []⟩ w5) := Yq ⟨hp3.below hb5, HE2.out.kept HK5.out HP2.out.lt (fun k hm => by rw [List.mem_singleton.1 hm]; exact Nat.le_refl _), hB5, Rows.nil _ _ _ (fun r hr => by simp only [LV.rows, LV.r1, LV.r2, List.mem_cons, List.not_mem_nil, or_false] at hr; rcases hr with rfl | rfl <;> exact ⟨rfl, rfl, rfl⟩), by show MsgsR _ [] []; rw [MsgsR], by show EnsR _ [] []; rw [EnsR], KeptB.refl _ _ _, ⟨Hgf.out.1, hB5.lt, Nat.le_refl _⟩, ⟨Sx.Fit.zero _, Sx.Fit.zero _⟩⟩
 clear hp3 hk3 hgf hB5 hb5
 obtain ⟨O, hO⟩ : ∃ O, O = Sx.files ts (ts.length + 2) ⟨pk, [], []⟩ s3 := ⟨_, rfl⟩
 have HEnd : Hid (R = if O.2.err.isSome then (⟨[], [], []⟩, O.2.err) else (O.1, none)) := Yq (by rw [HR.out, hO])
 have HO := Yq hO
 clear hO HR
 go_simp
 go_loopg [] (ts.length + 2) (fun n wr => ∃ (m' : LV) (s' : Sx.St), Hid (LAt A p w5.heap.size gf (.slice a ts.length cap) ts w5 s' m' wr) ∧ Hid (O = Sx.files ts n m'.fil s') ∧ Hid (s'.err = none → ts.length + 1 ≤ s'.pos + n))
 case atStart => exact ⟨_, s3, H5, HO, Yq (fun _ => by omega)⟩
 case round =>
  obtain ⟨m3, s2, HA, HOn, HFu⟩ := hrel
  obtain ⟨ev, cp, c2, f1, f2, hn0, hn1, hl, hcm2⟩ := HA.out.par.cells
  have Hst := Yq (files_step HOn.out HFu.out hl)
  have Hl := Yq hl
  clear HOn f1 f2 hcm2
  by_cases he : s2.err = none
  ·have := hn0 he
   subst this
   have Hen := Yq he
   by_cases hlt : s2.pos < ts.length
   ·have hltI : (s2.pos : Int) < (ts.length : Int) := by omega
    obtain ⟨n, hn, hO2⟩ := Hst.out.2 (fun e => by rcases e with e | e; rw [he] at e; cases e; omega)
    subst hn
    have HO2 := Yq hO2
    have HFu2 := Yq (HFu.out he)
    clear Hst hO2 HFu hn0 hn1 he hl HEnd HO
    have HT := Yq (takes_any A p 4 (by decide) _ ts s2 [59] wr HA.out.par)
    unfold Sx.takes at HT
    cases hs : Sx.sees ts 4 [59] s2
    ·rw [hs] at HT
     simp only [↓reduceIte, Bool.false_eq_true] at HT
     replace HO2 := HO2.out
     rw [hs] at HO2
     simp only [↓reduceIte, Bool.false_eq_true] at HO2
     replace HO2 := Yq HO2
     clear hs
     go_wp2_with fail
     refine HT.out.mono ?_
     rintro e w20 ⟨rfl, hp20, hk20⟩
     have H20 := Yq (HA.out.call hp20 hk20 (Sx.GoesN.refl _))
     clear hp20 hk20
     have HW := Yq (pword_any A p _ ts s2 Sx.bMessage w20 H20.out.par)
     unfold Sx.takes at HW
     cases hs : Sx.sees ts 1 Sx.bMessage s2
     ·rw [hs] at HW
      simp only [↓reduceIte, Bool.false_eq_true] at HW
      replace HO2 := HO2.out
      rw [hs] at HO2
      simp only [↓reduceIte, Bool.false_eq_true] at HO2
      replace HO2 := Yq HO2
      clear hs
      go_wp2_with fail
      refine HW.out.mono ?_
      rintro e w21 ⟨rfl, hp21, hk21⟩
      have H21 := Yq (H20.out.call hp21 hk21 (Sx.GoesN.refl _))
      clear hp21 hk21
      have HW2 := Yq (pword_any A p _ ts s2 Sx.bEnum w21 H21.out.par)
      unfold Sx.takes at HW2
      cases hs : Sx.sees ts 1 Sx.bEnum s2
      ·rw [hs] at HW2
       simp only [↓reduceIte, Bool.false_eq_true] at HW2
       replace HO2 := HO2.out
       rw [hs] at HO2
       simp only [↓reduceIte, Bool.false_eq_true] at HO2
       replace HO2 := Yq HO2
       clear hs
       go_wp2_with fail
       refine HW2.out.mono ?_
       rintro e w22 ⟨rfl, hp22, hk22⟩
       have H22 := Yq (H21.out.call hp22 hk22 (Sx.GoesN.refl _))
       clear hp22 hk22
       have HFa := Yq (fail_any A p _ ts s2 w22 H22.out.env.vars H22.out.par)
       go_wp2_with fail
       refine HFa.out.mono ?_
       rintro e w23 ⟨rfl, hp23, hk23⟩
       have H23 := Yq (H22.out.call hp23 hk23 (Sx.fail_goes ts 0 s2))
       clear hp23 hk23
       go_wp2_with fail
       go_roundg n
       case measure => omega
       case rel =>
        exact ⟨m3, Sx.fail ts s2, H23, HO2, Yq (fun e => by
         unfold Sx.fail at e
         rw [Hen.out] at e
         cases e)⟩
      ·rw [hs] at HW2
       simp only [↓reduceIte, Bool.false_eq_true] at HW2
       replace HO2 := HO2.out
       rw [hs] at HO2
       simp only [↓reduceIte, Bool.false_eq_true] at HO2
       replace HO2 := Yq HO2
       clear hs
       go_wp2_with fail
       refine HW2.out.mono ?_
       rintro e w22 ⟨rfl, hp22, hk22⟩
       have H22 := Yq (H21.out.call hp22 hk22 ((Sx.GoesN.next s2).mono (by omega)))
       clear hp22 hk22
       have H30 := Yq (H22.out.below (Below.refl _ _).drew)
       have Hfg := Yq (Sx.enum_go ts s2.next)
       have HFd := Yq (enum_any A p _ ts s2.next w22.drew H30.out.env H30.out.par)
       have Hpl2 : Hid (s2.next.pos ≤ ts.length) := Yq (by obtain ⟨_, _, _, _, h3⟩ := H30.out.par; exact h3)
       generalize Sx.enum ts s2.next = X at *
       obtain ⟨y, s4⟩ := X
       simp only at Hfg
       unfold EnmPost at HFd
       simp only at HFd
       go_wp2_with fail
       refine wp_region_G 7 (fun _ => True) (fun w' => Blk w' gf m3.cells) (by kernel_rfl) trivial H30.out.blk (fun _ => ?_)
       refine wpAnyG_take0 (i := 0) (v := .pointer (some ⟨gf, 2, none⟩)) rfl (by kernel_rfl) (fun _ _ _ h => h) (.inl ⟨by rfl, fun w hw => by go_simp⟩) (InvG.mk trivial H30.out.blk) ?_
       refine fSxParseA8_62 ?_
       refine wpAnyG_take (i := 1) (v := m3.v2) rfl (by kernel_rfl) (fun _ _ _ h => h) (.inl ⟨by rfl, fun w hw => by have hc := hw.2.cell (o := 2) (u := m3.v2) rfl; clear hw; go_simp⟩) (InvG.mk trivial H30.out.blk) ?_
       refine fSxParseA8_62 ?_
       refine wpAnyG_take0 (i := 2) (v := .pointer (some ⟨p, 0, none⟩)) rfl (by kernel_rfl) (fun _ _ _ h => h) (.inl ⟨by rfl, fun w hw => by go_simp⟩) (InvG.mk trivial H30.out.blk) ?_
       refine fSxParseA8_62 ?_
       refine wpAnyG_ready (rs := [3]) (by kernel_rfl) (by simp) ?_
       refine AllReadyG.plain rfl rfl (fun K hK => ?_) AllReadyG.nil
       go_simp
       refine HFd.out.mono ?_
       rintro e w31 ⟨xc, rfl, hx31, hp31, hk31⟩
       have H31 := Yq (H30.out.call hp31 hk31 (Hfg.out.mono (by omega)))
       have Hfit : Hid (Sx.Fit ts (m3.ess.length + 1) s4) := Yq (H30.out.fit.f2.push Hen.out Hpl2.out Hfg.out)
       have HXr := Yq (hx31.mono H30.out.fresh)
       have HXl := Yq hx31.size
       have HX1 := Yq hx31.one
       clear hp31 hk31 hx31
       refine hK.out _ _ (InvG.mk trivial H31.out.blk) (fun _ => ?_)
       clear hK
       refine fSxParseA8_62 ?_
       refine wpAnyG_ready (rs := [4]) (by kernel_rfl) (by simp) ?_
       refine AllReadyG.plain rfl rfl (fun K hK => ?_) AllReadyG.nil
       refine wp_buildSlice1 24 71 _ rfl xc (.agg xc.toArray) (by go_simp) Tryz.underlying24 (by rw [HXl.out]; exact info2E) (by rw [HXl.out]; decide) (by rw [HXl.out]; decide) rfl ?_
       refine hK.out _ _ (InvG.mk trivial ((H31.out.below ((Below.refl _ _).alloc (Nat.le_refl _) _)).blk)) (fun _ => ?_)
       clear hK
       refine fSxParseA8_62 ?_
       refine wpAnyG_ready (rs := [5]) (by kernel_rfl) (by simp) ?_
       refine AllReadyG.plain rfl rfl (fun K hK => ?_) AllReadyG.nil
       refine wp_append_own1 T_En _ _ rfl xc (by go_simp) H31.out.own2 (by go_simp) HXl.out HX1.out (by have h1 := H31.out.fit.f2.2; have h2 := Hsm.out.few; omega) H31.out.lts.2.2 ?_
       intro u9 w38 ho8 hg8 hat8 hone8
       have HB8 : Blk w38 gf m3.cells := H31.out.blk8 (r := m3.r2) (by simp [LV.rows]) hg8
       refine hK.out _ _ (InvG.mk trivial HB8) (fun _ => ?_)
       clear hK
       refine fSxParseA8_62 ?_
       refine wpAnyG_take0 (i := 6) (v := .pointer (some ⟨gf, 2, none⟩)) rfl (by kernel_rfl) (fun _ _ _ h => h) (.inl ⟨by rfl, fun w hw => by go_simp⟩) (InvG.mk trivial HB8) ?_
       refine fSxParseA8_62 ?_
       refine wpAnyG_ready (rs := [7]) (by kernel_rfl) (by simp) ?_
       refine AllReadyG.plain rfl rfl (fun K hK => ?_) AllReadyG.nil
       refine wp_store_lay 24 _ _ rfl gf 2 u9 [u9] m3.cells (by go_simp) (by go_simp) (one_cells hone8) HB8 info_slE (show 2 + 1 ≤ 3 by decide) (one1 hone8) ?_
       intro w39 hB9 hg9 hs9
       have H39 := Yq (H31.out.push2 Hfit.out HXr.out ho8 hg8 hat8 hB9 hg9)
       clear ho8 hg8 hat8 hone8 HB8 hB9 hg9 hs9
       refine hK.out _ _ (InvG.past trivial (by kernel_rfl)) (fun _ => ?_)
       clear hK
       refine fSxParseA8_62 ?_
       refine wpAnyG_done (by kernel_rfl) ?_ _
       go_wp2_with fail
       go_roundg n
       case measure => omega
       case rel =>
        refine ⟨_, s4, H39, HO2, Yq (fun he3 => ?_)⟩
        have h1 := (Hfg.out he3).2
        have h2 : s2.next.pos = s2.pos + 1 := rfl
        have h3 := HFu2.out
        omega
     ·rw [hs] at HW
      simp only [↓reduceIte, Bool.false_eq_true] at HW
      replace HO2 := HO2.out
      rw [hs] at HO2
      simp only [↓reduceIte, Bool.false_eq_true] at HO2
      replace HO2 := Yq HO2
      clear hs
      go_wp2_with fail
      refine HW.out.mono ?_
      rintro e w21 ⟨rfl, hp21, hk21⟩
      have H21 := Yq (H20.out.call hp21 hk21 ((Sx.GoesN.next s2).mono (by omega)))
      clear hp21 hk21
      have H30 := Yq (H21.out.below (Below.refl _ _).drew)
      have Hfg := Yq (message_go ts s2.next)
      have HFd := Yq (message_any A p _ ts s2.next w21.drew H30.out.env H30.out.par)
      have Hpl2 : Hid (s2.next.pos ≤ ts.length) := Yq (by obtain ⟨_, _, _, _, h3⟩ := H30.out.par; exact h3)
      generalize Sx.message ts 0 s2.next = X at *
      obtain ⟨y, s4⟩ := X
      simp only at Hfg
      unfold MsgPost at HFd
      simp only at HFd
      go_wp2_with fail
      refine wp_region_G 7 (fun _ => True) (fun w' => Blk w' gf m3.cells) (by kernel_rfl) trivial H30.out.blk (fun _ => ?_)
      refine wpAnyG_take0 (i := 0) (v := .pointer (some ⟨gf, 1, none⟩)) rfl (by kernel_rfl) (fun _ _ _ h => h) (.inl ⟨by rfl, fun w hw => by go_simp⟩) (InvG.mk trivial H30.out.blk) ?_
      refine fSxParseA8_62 ?_
      refine wpAnyG_take (i := 1) (v := m3.v1) rfl (by kernel_rfl) (fun _ _ _ h => h) (.inl ⟨by rfl, fun w hw => by have hc := hw.2.cell (o := 1) (u := m3.v1) rfl; clear hw; go_simp⟩) (InvG.mk trivial H30.out.blk) ?_
      refine fSxParseA8_62 ?_
      refine wpAnyG_take0 (i := 2) (v := .pointer (some ⟨p, 0, none⟩)) rfl (by kernel_rfl) (fun _ _ _ h => h) (.inl ⟨by rfl, fun w hw => by go_simp⟩) (InvG.mk trivial H30.out.blk) ?_
      refine fSxParseA8_62 ?_
      refine wpAnyG_ready (rs := [3]) (by kernel_rfl) (by simp) ?_
      refine AllReadyG.plain rfl rfl (fun K hK => ?_) AllReadyG.nil
      go_simp
      refine HFd.out.mono ?_
      rintro e w31 ⟨xc, rfl, hx31, hp31, hk31⟩
      have H31 := Yq (H30.out.call hp31 hk31 (Hfg.out.mono (by omega)))
      have Hfit : Hid (Sx.Fit ts (m3.mss.length + 1) s4) := Yq (H30.out.fit.f1.push Hen.out Hpl2.out Hfg.out)
      have HXr := Yq (hx31.mono H30.out.fresh)
      have HXl := Yq hx31.size
      have HX1 := Yq hx31.one
      clear hp31 hk31 hx31
      refine hK.out _ _ (InvG.mk trivial H31.out.blk) (fun _ => ?_)
      clear hK
      refine fSxParseA8_62 ?_
      refine wpAnyG_ready (rs := [4]) (by kernel_rfl) (by simp) ?_
      refine AllReadyG.plain rfl rfl (fun K hK => ?_) AllReadyG.nil
      refine wp_buildSlice1 23 45 _ rfl xc (.agg xc.toArray) (by go_simp) Tryz.underlying23 (by rw [HXl.out]; exact info2M) (by rw [HXl.out]; decide) (by rw [HXl.out]; decide) rfl ?_
      refine hK.out _ _ (InvG.mk trivial ((H31.out.below ((Below.refl _ _).alloc (Nat.le_refl _) _)).blk)) (fun _ => ?_)
      clear hK
      refine fSxParseA8_62 ?_
      refine wpAnyG_ready (rs := [5]) (by kernel_rfl) (by simp) ?_
      refine AllReadyG.plain rfl rfl (fun K hK => ?_) AllReadyG.nil
      refine wp_append_own1 T_Ms _ _ rfl xc (by go_simp) H31.out.own1 (by go_simp) HXl.out HX1.out (by have h1 := H31.out.fit.f1.2; have h2 := Hsm.out.few; omega) H31.out.lts.2.2 ?_
      intro u9 w38 ho8 hg8 hat8 hone8
      have HB8 : Blk w38 gf m3.cells := H31.out.blk8 (r := m3.r1) (by simp [LV.rows]) hg8
      refine hK.out _ _ (InvG.mk trivial HB8) (fun _ => ?_)
      clear hK
      refine fSxParseA8_62 ?_
      refine wpAnyG_take0 (i := 6) (v := .pointer (some ⟨gf, 1, none⟩)) rfl (by kernel_rfl) (fun _ _ _ h => h) (.inl ⟨by rfl, fun w hw => by go_simp⟩) (InvG.mk trivial HB8) ?_
      refine fSxParseA8_62 ?_
      refine wpAnyG_ready (rs := [7]) (by kernel_rfl) (by simp) ?_
      refine AllReadyG.plain rfl rfl (fun K hK => ?_) AllReadyG.nil
      refine wp_store_lay 23 _ _ rfl gf 1 u9 [u9] m3.cells (by go_simp) (by go_simp) (one_cells hone8) HB8 info_slM (show 1 + 1 ≤ 3 by decide) (one1 hone8) ?_
      intro w39 hB9 hg9 hs9
      have H39 := Yq (H31.out.push1 Hfit.out HXr.out ho8 hg8 hat8 hB9 hg9)
      clear ho8 hg8 hat8 hone8 HB8 hB9 hg9 hs9
      refine hK.out _ _ (InvG.past trivial (by kernel_rfl)) (fun _ => ?_)
      clear hK
      refine fSxParseA8_62 ?_
      refine wpAnyG_done (by kernel_rfl) ?_ _
      go_wp2_with fail
      go_roundg n
      case measure => omega
      case rel =>
       refine ⟨_, s4, H39, HO2, Yq (fun he3 => ?_)⟩
       have h1 := (Hfg.out he3).2
       have h2 : s2.next.pos = s2.pos + 1 := rfl
       have h3 := HFu2.out
       omega
    ·rw [hs] at HT
     simp only [↓reduceIte, Bool.false_eq_true] at HT
     replace HO2 := HO2.out
     rw [hs] at HO2
     simp only [↓reduceIte, Bool.false_eq_true] at HO2
     replace HO2 := Yq HO2
     clear hs
     go_wp2_with fail
     refine HT.out.mono ?_
     rintro e w20 ⟨rfl, hp20, hk20⟩
     have H20 := Yq (HA.out.call hp20 hk20 ((Sx.GoesN.next s2).mono (by omega)))
     clear hp20 hk20
     go_wp2_with fail
     go_roundg n
     case measure => omega
     case rel =>
      refine ⟨m3, s2.next, H20, HO2, Yq (fun he3 => ?_)⟩
      have h2 : s2.next.pos = s2.pos + 1 := rfl
      have h3 := HFu2.out
      omega
   ·have hltI : ¬ (s2.pos : Int) < (ts.length : Int) := by omega
    have hltJ : (ts.length : Int) ≤ (s2.pos : Int) := by omega
    have hOe := Hst.out.1 (.inr (by omega))
    have HEnd2 : Hid (R = (m3.fil, none)) := Yq (by rw [HEnd.out, hOe, he]; rfl)
    have HBl := HA.out.blk.whole
    have HK9 := Yq (HA.out.kept.kept (Nat.le_refl _))
    have HBr := HK9.out.blk (HK5.out.blk Hgr.out.1 (by have := Hgr.out; simp; omega)) (by have := Hgr.out; have := Hgf.out; simp; omega)
    clear hn0 hn1 he hl hlt Hst hOe HFu HEnd HO
    go_wp2_with (first
     | (refine wpList_load_seg rfl 26 _ rfl _ _ rfl _ _ HBl Tryz.underlying26 rfl infoFl ?_)
     | (refine wpList_store_all rfl 26 _ _ rfl gr m3.cells rfl rfl zFl HBr infoFl rfl HA.out.ones ?_; (intro w30 hB30 hgr30)))
    have hW := since_all Hb2.out HK5.out HK9.out hgr30 (Nat.le_trans Hgr.out.2.2.1 (Nat.le_of_lt Hgr.out.2.1)) (Nat.le_trans Hb2.out.size Hgf.out.2.2) Hgr.out.2.2.1
    have hfr := HA.out.whole2 hgr30 (by have := Hgr.out; have := HK5.out.size; omega) (Nat.le_trans Hb2.out.size HK5.out.size)
    rw [HEnd2.out]
    refine bodyPost_ret (v := .tuple #[.agg m3.cells.toArray, .nilIface]) ?_ rfl ⟨hW, _, rfl, hfr⟩
    exact results_blk2 (p := 2) (u := 3) (ty := 26) rfl _ _ gr m3.cells rfl hB30 _ Tryz.underlying26 rfl infoFl
  ·obtain ⟨g, hg⟩ := hn1 he
   subst hg
   have hOe := Hst.out.1 (.inl (by
    cases hx : s2.err with
    | none => exact absurd hx he
    | some z => rfl))
   have HEnd2 : Hid (R = (⟨[], [], []⟩, s2.err)) := Yq (by
    rw [HEnd.out, hOe]
    cases hx : s2.err with
    | none => exact absurd hx he
    | some z => rfl)
   have Hsome : Hid (∃ z, s2.err = some z ∧ Blk wr g [.int .i64 (z.2.1 : Nat), .int .i64 (z.2.2 : Nat), errV (A (z.1 - 1))]) := Yq (by
    obtain ⟨ev, hB, hEr, _, _⟩ := HA.out.par
    cases hx : s2.err with
    | none => exact absurd hx he
    | some z =>
     rw [hx] at hEr
     obtain ⟨g', e', hb', _⟩ := hEr
     have h1 := hB.cell (o := 2) (u := ev) rfl
     rw [c2] at h1
     have h2 := Option.some.inj h1
     rw [e'] at h2
     cases h2
     exact ⟨z, rfl, hb'.blk⟩)
   have HK9 := Yq (HA.out.kept.kept (Nat.le_refl _))
   have HBr := Yq (HK9.out.blk (HK5.out.blk Hgr.out.1 (by have := Hgr.out; simp; omega)) (by have := Hgr.out; have := Hgf.out; simp; omega))
   clear hn0 hn1 he hl Hst hOe HFu HEnd HO cp
   go_wp2_with fail
   refine wp_region_G 5 (fun w' => w'.cell? ⟨p, 2, none⟩ = some (.iface 73 (.pointer (some ⟨g, 0, none⟩)))) (fun _ => True) (by kernel_rfl) c2 trivial (fun _ => ?_)
   refine wpAnyG_take0 (i := 0) (v := .agg #[.string ⟨#[]⟩, .slice none 0 0, .slice none 0 0]) rfl (by kernel_rfl) (fun _ _ _ h => h) (.inl ⟨by rfl, fun w hw => by have hb := fil_build0; clear hw; go_simp⟩) (InvG.mk c2 trivial) ?_
   refine fSxParseA7_62 ?_
   refine wpAnyG_take0 (i := 1) (v := .pointer (some ⟨p, 0, none⟩)) rfl (by kernel_rfl) (fun _ _ _ h => h) (.inl ⟨by rfl, fun w hw => by go_simp⟩) (InvG.mk c2 trivial) ?_
   refine fSxParseA7_62 ?_
   refine wpAnyG_take0 (i := 2) (v := .pointer (some ⟨p, 0, none⟩)) rfl (by kernel_rfl) (fun _ _ _ h => h) (.inl ⟨by rfl, fun w hw => by go_simp⟩) (InvG.mk c2 trivial) ?_
   refine fSxParseA7_62 ?_
   refine wpAnyG_take0 (i := 3) (v := .pointer (some ⟨p, 2, none⟩)) rfl (by kernel_rfl) (fun _ _ _ h => h) (.inl ⟨by rfl, fun w hw => by go_simp⟩) (InvG.mk c2 trivial) ?_
   refine fSxParseA7_62 ?_
   refine wpAnyG_take0 (i := 4) (v := .iface 73 (.pointer (some ⟨g, 0, none⟩))) rfl (by kernel_rfl) (fun _ _ _ h => h) (.inl ⟨by rfl, fun w hw => by have hc := hw; clear hw; go_simp⟩) (InvG.mk c2 trivial) ?_
   refine fSxParseA7_62 ?_
   refine wpAnyG_ready (rs := [5]) (by kernel_rfl) (by simp) ?_
   refine AllReadyG.plain rfl rfl (fun K hK => ?_) AllReadyG.nil
   refine wp_store_lay 26 _ _ rfl gr 0 (.agg #[.string ⟨#[]⟩, .slice none 0 0, .slice none 0 0]) zFl zFl (by go_simp) (by go_simp) rfl HBr.out infoFl (show 0 + 3 ≤ 3 by decide) (by decide) ?_
   intro w30 hB30 hgr30d hs30
   have hgr30 : wr.grownBy w30 (some gr) := ⟨hgr30d.os, hgr30d.tape, hgr30d.output, hgr30d.size, hgr30d.block⟩
   clear hgr30d
   have hc30 : w30.cell? ⟨p, 2, none⟩ = some (.iface 73 (.pointer (some ⟨g, 0, none⟩))) := (grown_cell hgr30 HA.out.par.lt (fun e => by have h1 := Hgr.out; have h2 := Option.some.inj e; omega)).trans c2
   refine hK.out _ _ (InvG.past hc30 (by kernel_rfl)) (fun _ => ?_)
   clear hK
   refine fSxParseA7_62 ?_
   refine wpAnyG_take0 (i := 6) (v := .iface 73 (.pointer (some ⟨g, 0, none⟩))) rfl (by kernel_rfl) (fun _ _ _ h => h) (.inl ⟨by rfl, fun w hw => by go_simp⟩) (InvG.past hc30 (by kernel_rfl)) ?_
   refine fSxParseA7_62 ?_
   refine wpAnyG_done (by kernel_rfl) ?_ _
   have HB30 := Yq hB30
   have HW : Hid (Below w.heap.size w w30) := Yq (since_all Hb2.out HK5.out HK9.out hgr30 (Nat.le_trans Hgr.out.2.2.1 (Nat.le_of_lt Hgr.out.2.1)) (Nat.le_trans Hb2.out.size Hgf.out.2.2) Hgr.out.2.2.1)
   have Hg30 : Hid (∃ z, s2.err = some z ∧ Blk w30 g [.int .i64 (z.2.1 : Nat), .int .i64 (z.2.2 : Nat), errV (A (z.1 - 1))]) := Yq (by
    obtain ⟨z, hz, hb⟩ := Hsome.out
    refine ⟨z, hz, hb.grown hgr30 (fun e => ?_)⟩
    cases e
    have h1 := HBr.out.same hb
    cases h1)
   clear hB30 hgr30 hs30 hc30 c2
   go_wp2_with fail
   rw [HEnd2.out]
   obtain ⟨z, hz, hbz⟩ := Hg30.out
   refine bodyPost_ret (v := .tuple #[.agg zFl.toArray, .iface 73 (.pointer (some ⟨g, 0, none⟩))]) ?_ rfl ⟨HW.out, ?_⟩
   ·exact results_blk2 (p := 2) (u := 3) (ty := 26) rfl _ _ gr zFl rfl HB30.out _ Tryz.underlying26 rfl infoFl
   ·dsimp only
    rw [hz]
    exact ⟨g, rfl, hbz⟩
end Go.Proofs.YtpcfdngnmigkfaaGreatDoor
