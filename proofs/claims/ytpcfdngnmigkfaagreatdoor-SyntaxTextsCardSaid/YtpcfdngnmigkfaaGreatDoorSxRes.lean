/- Package syntax, walked: reserved lists. -/
import Derived.Test.YtpcfdngnmigkfaaGreatDoorSxOne
set_option linter.unusedVariables false
set_option linter.unusedSimpArgs false
namespace Go.Proofs.YtpcfdngnmigkfaaGreatDoor
open Go.RowKit
theorem fSxResA11_56 {P : Program} {M : Region.Mode} {O : Array Oper} {Q : Exit → Act → World → Prop} {Y Z : World → Prop} {f F : Nat} {a b c e g i j k l m n : Bool} {o p q r s t u v x y z a0 a1 a2 a3 a4 a5 a6 a7 a8 a9 aA aB aC aD aE aF aG aH aI aJ aK aL aM aN aO aP aQ aR aS aT aU aV aW aX aY aZ b0 b1 b2 b3 b4 b5 b6 b7 b8 : Value} {d} {w : World} (h : wpAnyG P M O Q Y Z f F #[a,b,c,e,g,i,j,k,l,m,n] ⟨#[o,p,q,r,s,t,u,v,x,y,z,a0,a1,a2,a3,a4,a5,a6,a7,a8,a9,aA,aB,aC,aD,aE,aF,aG,aH,aI,aJ,aK,aL,aM,aN,aO,aP,aQ,aR,aS,aT,aU,aV,aW,aX,aY,aZ,b0,b1,b2,b3,b4,b5,b6,b7,b8],d⟩ w) : wpAnyG P M O Q Y Z f F #[a,b,c,e,g,i,j,k,l,m,n] ⟨#[o,p,q,r,s,t,u,v,x,y,z,a0,a1,a2,a3,a4,a5,a6,a7,a8,a9,aA,aB,aC,aD,aE,aF,aG,aH,aI,aJ,aK,aL,aM,aN,aO,aP,aQ,aR,aS,aT,aU,aV,aW,aX,aY,aZ,b0,b1,b2,b3,b4,b5,b6,b7,b8],d⟩ w := h
theorem fSxResA13_56 {P : Program} {M : Region.Mode} {O : Array Oper} {Q : Exit → Act → World → Prop} {Y Z : World → Prop} {f F : Nat} {a b c e g i j k l m n o p : Bool} {q r s t u v x y z a0 a1 a2 a3 a4 a5 a6 a7 a8 a9 aA aB aC aD aE aF aG aH aI aJ aK aL aM aN aO aP aQ aR aS aT aU aV aW aX aY aZ b0 b1 b2 b3 b4 b5 b6 b7 b8 b9 bA : Value} {d} {w : World} (h : wpAnyG P M O Q Y Z f F #[a,b,c,e,g,i,j,k,l,m,n,o,p] ⟨#[q,r,s,t,u,v,x,y,z,a0,a1,a2,a3,a4,a5,a6,a7,a8,a9,aA,aB,aC,aD,aE,aF,aG,aH,aI,aJ,aK,aL,aM,aN,aO,aP,aQ,aR,aS,aT,aU,aV,aW,aX,aY,aZ,b0,b1,b2,b3,b4,b5,b6,b7,b8,b9,bA],d⟩ w) : wpAnyG P M O Q Y Z f F #[a,b,c,e,g,i,j,k,l,m,n,o,p] ⟨#[q,r,s,t,u,v,x,y,z,a0,a1,a2,a3,a4,a5,a6,a7,a8,a9,aA,aB,aC,aD,aE,aF,aG,aH,aI,aJ,aK,aL,aM,aN,aO,aP,aQ,aR,aS,aT,aU,aV,aW,aX,aY,aZ,b0,b1,b2,b3,b4,b5,b6,b7,b8,b9,bA],d⟩ w := h
def SameBut5 (m m' : MV) : Prop := m'.nm = m.nm ∧ m'.li = m.li ∧ m'.co = m.co ∧ m'.fs = m.fs ∧ m'.os = m.os ∧ m'.ms = m.ms ∧ m'.es = m.es ∧ m'.ns = m.ns
def SameBut6 (m m' : MV) : Prop := m'.nm = m.nm ∧ m'.li = m.li ∧ m'.co = m.co ∧ m'.fs = m.fs ∧ m'.os = m.os ∧ m'.ms = m.ms ∧ m'.es = m.es ∧ m'.rs = m.rs
theorem rng_build (a : Int) (w : World) : (Instr.build 115 #[(0, .int .i64 a)]).run Tryz.prog w = .ok (.agg #[.int .i64 a, .int .i64 0]) w := by kernel_rfl
theorem peek_arr (A : Nat → Addr) (p : Nat) (v : Value) (ts : List Lx.Tok) (s : Sx.St) (w : World) (h : Par A p v ts s w) :
  Calls Tryz.prog 48 #[.pointer (some ⟨p, 0, none⟩)] w fun e w' => e = .returned (.agg #[.int .i64 ((Sx.peek ts s).kind : Nat), .string (toB (Sx.peek ts s).text), .int .i64 ((Sx.peek ts s).num : Nat), .int .i64 ((Sx.peek ts s).line : Nat), .int .i64 ((Sx.peek ts s).col : Nat)]) ∧ Below w.heap.size w w' :=
 peek_any A p v ts s w h
theorem reserved_names {ts : List Lx.Tok} {m : MV} {s : Sx.St} (h : (Sx.peek ts s).kind = 3) : Sx.reserved ts m.msg s = (.mk m.nm m.fs m.os m.ms m.es m.rs (Sx.resNames ts (ts.length + 2) m.ns s).1 m.li m.co, Sx.sign ts 59 (Sx.resNames ts (ts.length + 2) m.ns s).2) := by
 unfold MV.msg Sx.reserved; dsimp only; rw [if_pos h]
theorem reserved_ranges {ts : List Lx.Tok} {m : MV} {s : Sx.St} (h : ¬ (Sx.peek ts s).kind = 3) : Sx.reserved ts m.msg s = (.mk m.nm m.fs m.os m.ms m.es (Sx.resRanges ts (ts.length + 2) m.rs s).1 m.ns m.li m.co, Sx.sign ts 59 (Sx.resRanges ts (ts.length + 2) m.rs s).2) := by
 unfold MV.msg Sx.reserved; dsimp only; rw [if_neg h]
set_option maxHeartbeats 8000000 in
set_option maxRecDepth 100000 in
theorem resnames_any (A : Nat → Addr) (p B gm : Nat) (v : Value) (ts : List Lx.Tok) (s : Sx.St) (m : MV) (w w0 : World) (hs : s.err = none) (hk : (Sx.peek ts s).kind = 3) (h : MAt A p B gm v ts w0 s m w) :
  Calls Tryz.prog 77 #[.pointer (some ⟨p, 0, none⟩), .pointer (some ⟨gm, 0, none⟩)] w (MsgPartPost A p B gm v ts w0 (Sx.reserved ts m.msg s)) := by
 have H := Yq h; have Hsm := Yq h.env.small; have Hs := Yq hs
 obtain ⟨R, hR⟩ : ∃ R, R = Sx.reserved ts m.msg s := ⟨_, rfl⟩
 rw [← hR]
 rw [reserved_names hk] at hR
 obtain ⟨O, hO⟩ : ∃ O, O = Sx.resNames ts (ts.length + 2) m.ns s := ⟨_, rfl⟩
 rw [← hO] at hR
 have HEnd : Hid (∀ m' : MV, SameBut6 m m' → m'.ns = O.1 → R = (m'.msg, Sx.sign ts 59 O.2)) := Yq (fun m' hm' hf' => by
  obtain ⟨e1, e2, e3, e4, e5, e6, e7, e8⟩ := hm'
  rw [hR]; unfold MV.msg; rw [e1, e2, e3, e4, e5, e6, e7, e8, hf'])
 have HO := Yq hO
 have hfd := field_text; have hfk := field_kind
 have HPk := Yq (peek_arr A p v ts s w h.par)
 rw [hk] at HPk
 clear hR hO h hs hk
 go_enter Tryz.func77, Tryz.ntmps77
 go_wp2_with fail
 refine HPk.out.mono ?_
 rintro e w1 ⟨rfl, hb1⟩
 have H1 := Yq (H.out.below hb1)
 clear hb1
 go_wp2_with fail
 go_loopg [5] (ts.length + 2) (fun n acc wr => ∃ (b : Bool) (m' : MV) (s' : Sx.St), acc = .bool b ∧ Hid (MAt A p B gm v ts w0 s' m' wr) ∧ Hid ((b = true → O = Sx.resNames ts n m'.ns s') ∧ (b = false → O = (m'.ns, s'))) ∧ Hid (SameBut6 m m') ∧ Hid (b = true → 1 ≤ n ∧ s'.err = none ∧ ts.length + 2 ≤ s'.pos + n))
 case atStart => exact ⟨true, m, s, rfl, H1, Yq ⟨fun _ => HO.out, fun e => by cases e⟩, Yq ⟨rfl, rfl, rfl, rfl, rfl, rfl, rfl, rfl⟩, Yq (fun _ => ⟨by omega, Hs.out, by omega⟩)⟩
 case round =>
  obtain ⟨b, m3, s2, rfl, HA, HOn, HSb, HF⟩ := hrel
  cases b
  ·have HEnd2 : Hid (R = (m3.msg, Sx.sign ts 59 s2)) := Yq (by have h1 := HOn.out.2 rfl; rw [HEnd.out m3 HSb.out (by rw [h1]), h1])
   have HS := Yq (sign_any A p 59 v ts s2 wr HA.out.env.vars HA.out.env.glt HA.out.par)
   clear HOn HF HEnd HO
   go_wp2_with fail
   refine HS.out.mono ?_
   rintro e w20 ⟨rfl, hp20, hk20⟩
   have H20 := Yq (HA.out.call hp20 hk20 ((Sx.sign_go ts 59 s2).mono (by omega)))
   clear hp20 hk20
   go_wp2_with fail
   go_end0
   rw [HEnd2.out]
   exact ⟨rfl, m3, rfl, H20.out⟩
  ·have HOn2 := Yq (HOn.out.1 rfl)
   have HF2 := Yq (HF.out rfl)
   obtain ⟨n, rfl⟩ : ∃ n, gk = n + 1 := ⟨gk - 1, by have := HF2.out.1; omega⟩
   have H20d := Yq (HA.out.below (Below.refl _ _).drew)
   have Hgo := Yq (Sx.of_go ts 3 s2)
   have HN := Yq (of_arr A p 3 (by decide) v ts s2 wr.drew H20d.out.env.vars H20d.out.par)
   have HO3 : Hid (O = if Sx.sees ts 4 [44] (Sx.of ts 3 s2).2 then Sx.resNames ts n (m3.ns ++ [(Sx.of ts 3 s2).1.text]) (Sx.of ts 3 s2).2.next else (m3.ns ++ [(Sx.of ts 3 s2).1.text], (Sx.of ts 3 s2).2)) := Yq (by rw [HOn2.out, Sx.resNames])
   clear HOn HOn2 HF HEnd HO
   generalize Sx.of ts 3 s2 = X at *
   obtain ⟨x, s3⟩ := X
   simp only at HN Hgo HO3
   go_wp2_with fail
   refine wp_region_G 12 (fun _ => True) (fun w' => Blk w' gm m3.cells) (by kernel_rfl) trivial H20d.out.blk (fun _ => ?_)
   refine wpAnyG_take0 (i := 0) (v := .pointer (some ⟨gm, 0, none⟩)) rfl (by kernel_rfl) (fun _ _ _ h => h) (.inl ⟨by rfl, fun w hw => by go_simp⟩) (InvG.mk trivial H20d.out.blk) ?_
   refine fSxResA13_56 ?_
   refine wpAnyG_take0 (i := 1) (v := .pointer (some ⟨gm, 0, none⟩)) rfl (by kernel_rfl) (fun _ _ _ h => h) (.inl ⟨by rfl, fun w hw => by go_simp⟩) (InvG.mk trivial H20d.out.blk) ?_
   refine fSxResA13_56 ?_
   refine wpAnyG_take0 (i := 2) (v := .pointer (some ⟨gm, 0, none⟩)) rfl (by kernel_rfl) (fun _ _ _ h => h) (.inl ⟨by rfl, fun w hw => by go_simp⟩) (InvG.mk trivial H20d.out.blk) ?_
   refine fSxResA13_56 ?_
   refine wpAnyG_take0 (i := 3) (v := .pointer (some ⟨gm, 6, none⟩)) rfl (by kernel_rfl) (fun _ _ _ h => h) (.inl ⟨by rfl, fun w hw => by go_simp⟩) (InvG.mk trivial H20d.out.blk) ?_
   refine fSxResA13_56 ?_
   refine wpAnyG_take (i := 4) (v := m3.v6) rfl (by kernel_rfl) (fun _ _ _ h => h) (.inl ⟨by rfl, fun w hw => by have hc := hw.2.cell (o := 6) (u := m3.v6) rfl; clear hw; go_simp⟩) (InvG.mk trivial H20d.out.blk) ?_
   refine fSxResA13_56 ?_
   refine wpAnyG_take0 (i := 5) (v := .pointer (some ⟨p, 0, none⟩)) rfl (by kernel_rfl) (fun _ _ _ h => h) (.inl ⟨by rfl, fun w hw => by go_simp⟩) (InvG.mk trivial H20d.out.blk) ?_
   refine fSxResA13_56 ?_
   refine wpAnyG_ready (rs := [6]) (by kernel_rfl) (by simp) ?_
   refine AllReadyG.plain rfl rfl (fun K hK => ?_) AllReadyG.nil
   go_simp
   refine HN.out.mono ?_
   rintro e w21 ⟨rfl, hp21, hk21⟩
   have H21 := Yq (H20d.out.call hp21 hk21 (Hgo.out.mono (by omega)))
   have Hfit : Hid (Sx.Fit ts (m3.ns.length + 1) s3) := Yq (H20d.out.fit.f6.push HF2.out.2.1 (by obtain ⟨_, _, _, _, h3⟩ := H20d.out.par; exact h3) Hgo.out)
   clear hp21 hk21
   refine hK.out _ _ (InvG.mk trivial H21.out.blk) (fun _ => ?_)
   clear hK
   refine fSxResA13_56 ?_
   refine wpAnyG_take0 (i := 7) (v := .string (toB x.text)) rfl (by kernel_rfl) (fun _ _ _ h => h) (.inl ⟨by rfl, fun w hw => by go_simp⟩) (InvG.mk trivial H21.out.blk) ?_
   refine fSxResA13_56 ?_
   refine wpAnyG_ready (rs := [8]) (by kernel_rfl) (by simp) ?_
   refine AllReadyG.plain rfl rfl (fun K hK => ?_) AllReadyG.nil
   refine wp_buildSlice1 42 9 _ rfl (sC x.text) (.string (toB x.text)) (by go_simp) Tryz.underlying42 info2S (show 0 < 1 by decide) (show 1 ≤ 1000 by decide) rfl ?_
   refine hK.out _ _ (InvG.mk trivial ((H21.out.below ((Below.refl _ _).alloc (Nat.le_refl _) _)).blk)) (fun _ => ?_)
   clear hK
   refine fSxResA13_56 ?_
   refine wpAnyG_ready (rs := [9]) (by kernel_rfl) (by simp) ?_
   refine AllReadyG.plain rfl rfl (fun K hK => ?_) AllReadyG.nil
   refine wp_append_own1 T_St _ _ rfl (sC x.text) (by go_simp) H21.out.own6 (by go_simp) rfl (one_sC x.text) (by have h1 := H21.out.fit.f6.2; have h2 := Hsm.out.few; omega) H21.out.lts.2.2 ?_
   intro u9 w28 ho8 hg8 hat8 hone8
   have HB8 : Blk w28 gm m3.cells := H21.out.blk8 (r := m3.r6) (by simp [MV.rows]) hg8
   refine hK.out _ _ (InvG.mk trivial HB8) (fun _ => ?_)
   clear hK
   refine fSxResA13_56 ?_
   refine wpAnyG_take0 (i := 10) (v := .pointer (some ⟨gm, 0, none⟩)) rfl (by kernel_rfl) (fun _ _ _ h => h) (.inl ⟨by rfl, fun w hw => by go_simp⟩) (InvG.mk trivial HB8) ?_
   refine fSxResA13_56 ?_
   refine wpAnyG_take0 (i := 11) (v := .pointer (some ⟨gm, 6, none⟩)) rfl (by kernel_rfl) (fun _ _ _ h => h) (.inl ⟨by rfl, fun w hw => by go_simp⟩) (InvG.mk trivial HB8) ?_
   refine fSxResA13_56 ?_
   refine wpAnyG_ready (rs := [12]) (by kernel_rfl) (by simp) ?_
   refine AllReadyG.plain rfl rfl (fun K hK => ?_) AllReadyG.nil
   refine wp_store_lay 42 _ _ rfl gm 6 u9 [u9] m3.cells (by go_simp) (by go_simp) (one_cells hone8) HB8 info_slS (show 6 + 1 ≤ 9 by decide) (one1 hone8) ?_
   intro w29 hB9 hg9 hs9
   have H29p := Yq (H21.out.push6 Hfit.out ho8 hg8 hat8 hB9 hg9)
   clear ho8 hg8 hat8 hone8 HB8 hB9 hg9 hs9
   refine hK.out _ _ (InvG.past trivial (by kernel_rfl)) (fun _ => ?_)
   clear hK
   refine fSxResA13_56 ?_
   refine wpAnyG_done (by kernel_rfl) ?_ _
   have HT := Yq (takes_any A p 4 (by decide) v ts s3 [44] w29 H29p.out.par)
   unfold Sx.takes at HT
   cases hs : Sx.sees ts 4 [44] s3
   ·rw [hs] at HT HO3
    simp only [↓reduceIte, Bool.false_eq_true] at HT HO3
    clear hs
    go_wp2_with fail
    refine HT.out.mono ?_
    rintro e w30 ⟨rfl, hp30, hk30⟩
    have H30 := Yq (H29p.out.call hp30 hk30 (Sx.GoesN.refl _))
    clear hp30 hk30
    go_wp2_with fail
    go_roundg n
    case measure => omega
    case rel =>
     exact ⟨false, { m3 with v6 := u9, ns := m3.ns ++ [x.text] }, s3, rfl, H30, Yq ⟨fun e => (by cases e), fun _ => HO3.out⟩, Yq HSb.out, Yq (fun e => by cases e)⟩
   ·rw [hs] at HT HO3
    simp only [↓reduceIte, Bool.false_eq_true] at HT HO3
    have Hh := Yq (sees_here (by decide) hs)
    clear hs
    go_wp2_with fail
    refine HT.out.mono ?_
    rintro e w30 ⟨rfl, hp30, hk30⟩
    have H30 := Yq (H29p.out.call hp30 hk30 ((Sx.GoesN.next s3).mono (by omega)))
    clear hp30 hk30
    go_wp2_with fail
    go_roundg n
    case measure => omega
    case rel =>
     refine ⟨true, { m3 with v6 := u9, ns := m3.ns ++ [x.text] }, s3.next, rfl, H30, Yq ⟨fun _ => HO3.out, fun e => by cases e⟩, Yq HSb.out, Yq (fun _ => ?_)⟩
     have h1 := Hh.out; have h2 := HF2.out; have h3 := (Hgo.out h1.1).2
     have h4 : s3.next.pos = s3.pos + 1 := rfl
     exact ⟨by omega, h1.1, by omega⟩
set_option maxHeartbeats 16000000 in
set_option maxRecDepth 100000 in
theorem resranges_any (A : Nat → Addr) (p B gm : Nat) (v : Value) (ts : List Lx.Tok) (s : Sx.St) (m : MV) (w w0 : World) (hs : s.err = none) (hk : ¬ (Sx.peek ts s).kind = 3) (h : MAt A p B gm v ts w0 s m w) :
  Calls Tryz.prog 77 #[.pointer (some ⟨p, 0, none⟩), .pointer (some ⟨gm, 0, none⟩)] w (MsgPartPost A p B gm v ts w0 (Sx.reserved ts m.msg s)) := by
 have H := Yq h; have Hsm := Yq h.env.small; have Hs := Yq hs
 obtain ⟨R, hR⟩ : ∃ R, R = Sx.reserved ts m.msg s := ⟨_, rfl⟩
 rw [← hR]
 rw [reserved_ranges hk] at hR
 obtain ⟨O, hO⟩ : ∃ O, O = Sx.resRanges ts (ts.length + 2) m.rs s := ⟨_, rfl⟩
 rw [← hO] at hR
 have HEnd : Hid (∀ m' : MV, SameBut5 m m' → m'.rs = O.1 → R = (m'.msg, Sx.sign ts 59 O.2)) := Yq (fun m' hm' hf' => by
  obtain ⟨e1, e2, e3, e4, e5, e6, e7, e8⟩ := hm'
  rw [hR]; unfold MV.msg; rw [e1, e2, e3, e4, e5, e6, e7, e8, hf'])
 have HO := Yq hO
 have hfd := field_num; have hfk := field_kind; have hbd := rng_build
 have HPk := Yq (peek_arr A p v ts s w h.par)
 obtain ⟨kd, hkd⟩ : ∃ z, z = (Sx.peek ts s).kind := ⟨_, rfl⟩
 rw [← hkd] at HPk hk
 have hz : ¬ (kd : Int) = 3 := by omega
 have hz2 : ((kd : Int) == 3) = false := beq_eq_false_iff_ne.2 hz
 clear hR hO h hs hk hkd
 go_enter Tryz.func77, Tryz.ntmps77
 go_wp2_with fail
 refine HPk.out.mono ?_
 rintro e w1 ⟨rfl, hb1⟩
 have H1 := Yq (H.out.below hb1)
 clear hb1
 go_wp2_with fail
 clear hz hz2 HPk
 go_loopg [5] (ts.length + 2) (fun n acc wr => ∃ (b : Bool) (m' : MV) (s' : Sx.St), acc = .bool b ∧ Hid (MAt A p B gm v ts w0 s' m' wr) ∧ Hid ((b = true → O = Sx.resRanges ts n m'.rs s') ∧ (b = false → O = (m'.rs, s'))) ∧ Hid (SameBut5 m m') ∧ Hid (b = true → 1 ≤ n ∧ s'.err = none ∧ ts.length + 2 ≤ s'.pos + n))
 case atStart => exact ⟨true, m, s, rfl, H1, Yq ⟨fun _ => HO.out, fun e => by cases e⟩, Yq ⟨rfl, rfl, rfl, rfl, rfl, rfl, rfl, rfl⟩, Yq (fun _ => ⟨by omega, Hs.out, by omega⟩)⟩
 case round =>
  obtain ⟨b, m3, s2, rfl, HA, HOn, HSb, HF⟩ := hrel
  cases b
  ·have HEnd2 : Hid (R = (m3.msg, Sx.sign ts 59 s2)) := Yq (by have h1 := HOn.out.2 rfl; rw [HEnd.out m3 HSb.out (by rw [h1]), h1])
   have HS := Yq (sign_any A p 59 v ts s2 wr HA.out.env.vars HA.out.env.glt HA.out.par)
   clear HOn HF HEnd HO
   go_wp2_with fail
   refine HS.out.mono ?_
   rintro e w20 ⟨rfl, hp20, hk20⟩
   have H20 := Yq (HA.out.call hp20 hk20 ((Sx.sign_go ts 59 s2).mono (by omega)))
   clear hp20 hk20
   go_wp2_with fail
   go_end0
   rw [HEnd2.out]
   exact ⟨rfl, m3, rfl, H20.out⟩
  ·have HOn2 := Yq (HOn.out.1 rfl)
   have HF2 := Yq (HF.out rfl)
   obtain ⟨n, rfl⟩ : ∃ n, gk = n + 1 := ⟨gk - 1, by have := HF2.out.1; omega⟩
   have HO3 : Hid (∀ r s3, Sx.range ts s2 = (r, s3) → O = if Sx.sees ts 4 [44] s3 then Sx.resRanges ts n (m3.rs ++ [r]) s3.next else (m3.rs ++ [r], s3)) := Yq (fun r s3 e => by rw [HOn2.out, Sx.resRanges, e])
   have HRg := Yq (Sx.range_go ts s2)
   have HN := Yq (of_arr A p 2 (by decide) v ts s2 wr HA.out.env.vars HA.out.par)
   have Hgo := Yq (Sx.of_go ts 2 s2)
   have Hrg : Hid (Sx.range ts s2 = if Sx.sees ts 1 Sx.bTo (Sx.of ts 2 s2).2 then (if Sx.sees ts 1 Sx.bMax (Sx.of ts 2 s2).2.next then (⟨(Sx.of ts 2 s2).1.num, 536870911⟩, (Sx.of ts 2 s2).2.next.next) else (⟨(Sx.of ts 2 s2).1.num, (Sx.of ts 2 (Sx.of ts 2 s2).2.next).1.num⟩, (Sx.of ts 2 (Sx.of ts 2 s2).2.next).2)) else (⟨(Sx.of ts 2 s2).1.num, (Sx.of ts 2 s2).1.num⟩, (Sx.of ts 2 s2).2)) := Yq rfl
   clear HOn HOn2 HF HEnd HO
   generalize Sx.of ts 2 s2 = X at *
   obtain ⟨x, s3⟩ := X
   simp only at HN Hgo Hrg
   go_upto_region 7 with (first
    | (go_at_call 49; (refine HN.out.mono ?_); rintro e w20 ⟨rfl, hp20, hk20⟩; have H20 := Yq (HA.out.call hp20 hk20 (Hgo.out.mono (by omega))); clear hp20 hk20)
    | (refine wpList_alloc_lay rfl 115 rfl zRg zeroRg ?_; (intro w21 gq hgq hBq hb21))
    | (refine wpList_store_all rfl 115 _ _ rfl gq [.int .i64 x.num, .int .i64 0] rfl rfl zRg hBq infoRg rfl ?_ ?_; (· exact one_rC ⟨x.num, 0⟩); (intro w22 hB22 hgr22; have hb22 := Below.grown hb21 hgr22 hb21.size (fun _ e => by cases e; exact hgq); clear hb21 hgr22 hBq)))
   have H22 := Yq (H20.out.below hb22)
   have HQ22 : Hid (SAt A p gq v ts w22 s3 [.int .i64 x.num, .int .i64 0] w22) := Yq ⟨H22.out.par, H22.out.env, hB22, Kept.refl _ _, Nat.lt_of_lt_of_le H20.out.par.lt hgq, (show (2 : Nat) ≠ 3 by decide)⟩
   have Hgq : Hid ((∀ k, m3.v5.ownBlock = some k → k < gq) ∧ gm < gq ∧ w20.heap.size ≤ gq ∧ Below w20.heap.size w20 w22) := Yq ⟨fun k e => by have := (H20.out.own5.lt k e).2; omega, by have := H20.out.blk.lt; omega, hgq, hb22⟩
   clear hB22 hgq hb22
   have c0 : w22.cell? ⟨gq, 0, none⟩ = some (.int .i64 x.num) := HQ22.out.blk.cell (o := 0) rfl
   have HB22 := HQ22.out.blk
   go_upto_region 8 with (first
    | (refine wpList_store_blk1 rfl 3 _ _ rfl gq 1 (.int .i64 x.num) rfl rfl _ HB22 info_int1 ?_ rfl ?_; (· show 1 + 1 ≤ 2; decide); (intro w23 hB23 hgr23 hsz)))
   have HQ23 : Hid (SAt A p gq v ts w22 s3 (rC ⟨x.num, x.num⟩) w23) := Yq (HQ22.out.wrote hB23 (show (2 : Nat) ≠ 3 by decide) hgr23)
   clear hB23 hgr23 hsz HB22 c0
   have HT := Yq (pword_any A p v ts s3 Sx.bTo w23 HQ23.out.par)
   unfold Sx.takes at HT
   cases hs : Sx.sees ts 1 Sx.bTo s3
   ·rw [hs] at HT Hrg
    simp only [↓reduceIte, Bool.false_eq_true] at HT Hrg
    have Hrn : Hid (Sx.range ts s2 = (⟨x.num, x.num⟩, s3)) := Hrg
    clear hs Hrg
    go_wp2_with fail
    refine HT.out.mono ?_
    rintro e w24 ⟨rfl, hp24, hk24⟩
    have HQ24 := Yq (HQ23.out.call hp24 hk24)
    clear hp24 hk24
    have H30 : Hid (MAt A p B gm v ts w0 s3 m3 w24.drew) := Yq ((H20.out.call HQ24.out.par (((Kept.of_below (S := [p]) Hgq.out.2.2.2)).trans2 HQ24.out.kept Hgq.out.2.2.1) (Sx.GoesN.refl _)).below (Below.refl _ _).drew)
    have HBq : Hid (Blk w24.drew gq (rC ⟨x.num, x.num⟩)) := Yq HQ24.out.blk
    have Hfit : Hid (Sx.Fit ts (m3.rs.length + 1) s3) := Yq (by
     have h1 := HRg.out
     rw [Hrn.out] at h1
     exact HA.out.fit.f5.push HF2.out.2.1 (by obtain ⟨_, _, _, _, h3⟩ := HA.out.par; exact h3) h1)
    have HO4 := Yq (HO3.out _ _ Hrn.out)
    go_wp2_with fail
    refine wp_region_G 10 (fun _ => True) (fun w' => Blk w' gm m3.cells ∧ Blk w' gq (rC ⟨x.num, x.num⟩)) (by kernel_rfl) trivial ⟨H30.out.blk, HBq.out⟩ (fun _ => ?_)
    refine wpAnyG_take0 (i := 0) (v := .pointer (some ⟨gm, 0, none⟩)) rfl (by kernel_rfl) (fun _ _ _ h => h) (.inl ⟨by rfl, fun w hw => by go_simp⟩) (InvG.mk trivial ⟨H30.out.blk, HBq.out⟩) ?_
    refine fSxResA11_56 ?_
    refine wpAnyG_take0 (i := 1) (v := .pointer (some ⟨gm, 0, none⟩)) rfl (by kernel_rfl) (fun _ _ _ h => h) (.inl ⟨by rfl, fun w hw => by go_simp⟩) (InvG.mk trivial ⟨H30.out.blk, HBq.out⟩) ?_
    refine fSxResA11_56 ?_
    refine wpAnyG_take0 (i := 2) (v := .pointer (some ⟨gm, 0, none⟩)) rfl (by kernel_rfl) (fun _ _ _ h => h) (.inl ⟨by rfl, fun w hw => by go_simp⟩) (InvG.mk trivial ⟨H30.out.blk, HBq.out⟩) ?_
    refine fSxResA11_56 ?_
    refine wpAnyG_take0 (i := 3) (v := .pointer (some ⟨gm, 5, none⟩)) rfl (by kernel_rfl) (fun _ _ _ h => h) (.inl ⟨by rfl, fun w hw => by go_simp⟩) (InvG.mk trivial ⟨H30.out.blk, HBq.out⟩) ?_
    refine fSxResA11_56 ?_
    refine wpAnyG_take (i := 4) (v := m3.v5) rfl (by kernel_rfl) (fun _ _ _ h => h) (.inl ⟨by rfl, fun w hw => by have hc := hw.2.1.cell (o := 5) (u := m3.v5) rfl; clear hw; go_simp⟩) (InvG.mk trivial ⟨H30.out.blk, HBq.out⟩) ?_
    refine fSxResA11_56 ?_
    refine wpAnyG_take (i := 5) (v := .agg (rC ⟨x.num, x.num⟩).toArray) rfl (by kernel_rfl) (fun _ _ _ h => h) (yieldsIf_load_mid (by rfl) 115 _ rfl gq 0 (by go_simp) (rC ⟨x.num, x.num⟩) _ (fun w h => h.2.2.whole) Tryz.underlying115 rfl infoRg) (InvG.mk trivial ⟨H30.out.blk, HBq.out⟩) ?_
    refine fSxResA11_56 ?_
    refine wpAnyG_ready (rs := [6]) (by kernel_rfl) (by simp) ?_
    refine AllReadyG.plain rfl rfl (fun K hK => ?_) AllReadyG.nil
    refine wp_buildSlice1 43 115 _ rfl (rC ⟨x.num, x.num⟩) (.agg (rC ⟨x.num, x.num⟩).toArray) (by go_simp) Tryz.underlying43 info2R (show 0 < 2 by decide) (show 2 ≤ 1000 by decide) rfl ?_
    refine hK.out _ _ (InvG.mk trivial ⟨(H30.out.below ((Below.refl _ _).alloc (Nat.le_refl _) _)).blk, HBq.out.alloc _⟩) (fun _ => ?_)
    clear hK
    refine fSxResA11_56 ?_
    refine wpAnyG_ready (rs := [7]) (by kernel_rfl) (by simp) ?_
    refine AllReadyG.plain rfl rfl (fun K hK => ?_) AllReadyG.nil
    refine wp_append_own1 T_Rg _ _ rfl (rC ⟨x.num, x.num⟩) (by go_simp) H30.out.own5 (by go_simp) rfl (one_rC _) (by have h1 := H30.out.fit.f5.2; have h2 := Hsm.out.few; omega) H30.out.lts.2.2 ?_
    intro u9 w38 ho8 hg8 hat8 hone8
    have HB8 : Blk w38 gm m3.cells := H30.out.blk8 (r := m3.r5) (by simp [MV.rows]) hg8
    have HB8q : Blk w38 gq (rC ⟨x.num, x.num⟩) := HBq.out.grown hg8 (fun e => by have := Hgq.out.1 gq e.symm; omega)
    refine hK.out _ _ (InvG.mk trivial ⟨HB8, HB8q⟩) (fun _ => ?_)
    clear hK
    refine fSxResA11_56 ?_
    refine wpAnyG_take0 (i := 8) (v := .pointer (some ⟨gm, 0, none⟩)) rfl (by kernel_rfl) (fun _ _ _ h => h) (.inl ⟨by rfl, fun w hw => by go_simp⟩) (InvG.mk trivial ⟨HB8, HB8q⟩) ?_
    refine fSxResA11_56 ?_
    refine wpAnyG_take0 (i := 9) (v := .pointer (some ⟨gm, 5, none⟩)) rfl (by kernel_rfl) (fun _ _ _ h => h) (.inl ⟨by rfl, fun w hw => by go_simp⟩) (InvG.mk trivial ⟨HB8, HB8q⟩) ?_
    refine fSxResA11_56 ?_
    refine wpAnyG_ready (rs := [10]) (by kernel_rfl) (by simp) ?_
    refine AllReadyG.plain rfl rfl (fun K hK => ?_) AllReadyG.nil
    refine wp_store_lay 43 _ _ rfl gm 5 u9 [u9] m3.cells (by go_simp) (by go_simp) (one_cells hone8) HB8 info_slR (show 5 + 1 ≤ 9 by decide) (one1 hone8) ?_
    intro w39 hB9 hg9 hs9
    have H39 := Yq (H30.out.push5 (x := ⟨x.num, x.num⟩) Hfit.out ho8 hg8 hat8 hB9 hg9)
    clear ho8 hg8 hat8 hone8 HB8 HB8q hB9 hg9 hs9
    refine hK.out _ _ (InvG.past trivial (by kernel_rfl)) (fun _ => ?_)
    clear hK
    refine fSxResA11_56 ?_
    refine wpAnyG_done (by kernel_rfl) ?_ _
    have HT9 := Yq (takes_any A p 4 (by decide) v ts s3 [44] w39 H39.out.par)
    unfold Sx.takes at HT9
    cases hs9 : Sx.sees ts 4 [44] (s3)
    ·rw [hs9] at HT9 HO4
     simp only [↓reduceIte, Bool.false_eq_true] at HT9 HO4
     clear hs9
     go_wp2_with fail
     refine HT9.out.mono ?_
     rintro e w40 ⟨rfl, hp40, hk40⟩
     have H40 := Yq (H39.out.call hp40 hk40 (Sx.GoesN.refl _))
     clear hp40 hk40
     go_wp2_with fail
     go_roundg n
     case measure => omega
     case rel =>
      exact ⟨false, { m3 with v5 := u9, rs := m3.rs ++ [⟨x.num, x.num⟩] }, s3, rfl, H40, Yq ⟨fun e => (by cases e), fun _ => HO4.out⟩, Yq HSb.out, Yq (fun e => by cases e)⟩
    ·rw [hs9] at HT9 HO4
     simp only [↓reduceIte, Bool.false_eq_true] at HT9 HO4
     have Hh := Yq (sees_here (by decide) hs9)
     clear hs9
     go_wp2_with fail
     refine HT9.out.mono ?_
     rintro e w40 ⟨rfl, hp40, hk40⟩
     have H40 := Yq (H39.out.call hp40 hk40 ((Sx.GoesN.next _).mono (by omega)))
     clear hp40 hk40
     go_wp2_with fail
     go_roundg n
     case measure => omega
     case rel =>
      refine ⟨true, { m3 with v5 := u9, rs := m3.rs ++ [⟨x.num, x.num⟩] }, (s3).next, rfl, H40, Yq ⟨fun _ => HO4.out, fun e => by cases e⟩, Yq HSb.out, Yq (fun _ => ?_)⟩
      have h1 := Hh.out; have h2 := HF2.out; have h3 := HRg.out
      rw [Hrn.out] at h3
      have h5 := (h3 h1.1).2
      dsimp only at h5
      have h4 : (s3).next.pos = (s3).pos + 1 := rfl
      exact ⟨by omega, h1.1, by omega⟩
   ·rw [hs] at HT Hrg
    simp only [↓reduceIte, Bool.false_eq_true] at HT Hrg
    clear hs
    go_wp2_with fail
    refine HT.out.mono ?_
    rintro e w24 ⟨rfl, hp24, hk24⟩
    have HQ24 := Yq (HQ23.out.call hp24 hk24)
    clear hp24 hk24
    have HB24 := HQ24.out.blk
    go_upto_region 10 with (first
     | (refine wpList_store_blk1 rfl 3 _ _ rfl gq 1 (.int .i64 536870911) rfl rfl _ HB24 info_int1 ?_ rfl ?_; (· show 1 + 1 ≤ 2; decide); (intro w25 hB25 hgr25 hsz)))
    have HQ25 : Hid (SAt A p gq v ts w22 s3.next (rC ⟨x.num, 536870911⟩) w25) := Yq (HQ24.out.wrote hB25 (show (2 : Nat) ≠ 3 by decide) hgr25)
    clear hB25 hgr25 hsz HB24
    have HT2 := Yq (pword_any A p v ts s3.next Sx.bMax w25 HQ25.out.par)
    unfold Sx.takes at HT2
    cases hs : Sx.sees ts 1 Sx.bMax s3.next
    ·rw [hs] at HT2 Hrg
     simp only [↓reduceIte, Bool.false_eq_true] at HT2 Hrg
     clear hs
     go_wp2_with fail
     refine HT2.out.mono ?_
     rintro e w26 ⟨rfl, hp26, hk26⟩
     have HQ26 := Yq (HQ25.out.call hp26 hk26)
     clear hp26 hk26
     have HN2 := Yq (of_arr A p 2 (by decide) v ts s3.next w26 HQ26.out.env.vars HQ26.out.par)
     have Hgo2 := Yq (Sx.of_go ts 2 s3.next)
     generalize Sx.of ts 2 s3.next = Y at *
     obtain ⟨y, s4⟩ := Y
     simp only at HN2 Hrg Hgo2
     have Hrn : Hid (Sx.range ts s2 = (⟨x.num, y.num⟩, s4)) := Hrg
     clear Hrg
     go_wp2_with fail
     refine HN2.out.mono ?_
     rintro e w27 ⟨rfl, hp27, hk27⟩
     have HQ27 := Yq (HQ26.out.call hp27 hk27)
     clear hp27 hk27
     have HB27 := HQ27.out.blk
     go_upto_region 12 with (first
      | (refine wpList_store_blk1 rfl 3 _ _ rfl gq 1 (.int .i64 y.num) rfl rfl _ HB27 info_int1 ?_ rfl ?_; (· show 1 + 1 ≤ 2; decide); (intro w28 hB28 hgr28 hsz)))
     have HQ28 : Hid (SAt A p gq v ts w22 s4 (rC ⟨x.num, y.num⟩) w28) := Yq (HQ27.out.wrote hB28 (show (2 : Nat) ≠ 3 by decide) hgr28)
     clear hB28 hgr28 hsz HB27
     have H30 : Hid (MAt A p B gm v ts w0 s4 m3 w28.drew) := Yq ((H20.out.call HQ28.out.par (((Kept.of_below (S := [p]) Hgq.out.2.2.2)).trans2 HQ28.out.kept Hgq.out.2.2.1) ((Sx.GoesN.next s3).then Hgo2.out (by omega))).below (Below.refl _ _).drew)
     have HBq : Hid (Blk w28.drew gq (rC ⟨x.num, y.num⟩)) := Yq HQ28.out.blk
     have Hfit : Hid (Sx.Fit ts (m3.rs.length + 1) s4) := Yq (by
      have h1 := HRg.out
      rw [Hrn.out] at h1
      exact HA.out.fit.f5.push HF2.out.2.1 (by obtain ⟨_, _, _, _, h3⟩ := HA.out.par; exact h3) h1)
     have HO4 := Yq (HO3.out _ _ Hrn.out)
     go_wp2_with fail
     refine wp_region_G 10 (fun _ => True) (fun w' => Blk w' gm m3.cells ∧ Blk w' gq (rC ⟨x.num, y.num⟩)) (by kernel_rfl) trivial ⟨H30.out.blk, HBq.out⟩ (fun _ => ?_)
     refine wpAnyG_take0 (i := 0) (v := .pointer (some ⟨gm, 0, none⟩)) rfl (by kernel_rfl) (fun _ _ _ h => h) (.inl ⟨by rfl, fun w hw => by go_simp⟩) (InvG.mk trivial ⟨H30.out.blk, HBq.out⟩) ?_
     refine fSxResA11_56 ?_
     refine wpAnyG_take0 (i := 1) (v := .pointer (some ⟨gm, 0, none⟩)) rfl (by kernel_rfl) (fun _ _ _ h => h) (.inl ⟨by rfl, fun w hw => by go_simp⟩) (InvG.mk trivial ⟨H30.out.blk, HBq.out⟩) ?_
     refine fSxResA11_56 ?_
     refine wpAnyG_take0 (i := 2) (v := .pointer (some ⟨gm, 0, none⟩)) rfl (by kernel_rfl) (fun _ _ _ h => h) (.inl ⟨by rfl, fun w hw => by go_simp⟩) (InvG.mk trivial ⟨H30.out.blk, HBq.out⟩) ?_
     refine fSxResA11_56 ?_
     refine wpAnyG_take0 (i := 3) (v := .pointer (some ⟨gm, 5, none⟩)) rfl (by kernel_rfl) (fun _ _ _ h => h) (.inl ⟨by rfl, fun w hw => by go_simp⟩) (InvG.mk trivial ⟨H30.out.blk, HBq.out⟩) ?_
     refine fSxResA11_56 ?_
     refine wpAnyG_take (i := 4) (v := m3.v5) rfl (by kernel_rfl) (fun _ _ _ h => h) (.inl ⟨by rfl, fun w hw => by have hc := hw.2.1.cell (o := 5) (u := m3.v5) rfl; clear hw; go_simp⟩) (InvG.mk trivial ⟨H30.out.blk, HBq.out⟩) ?_
     refine fSxResA11_56 ?_
     refine wpAnyG_take (i := 5) (v := .agg (rC ⟨x.num, y.num⟩).toArray) rfl (by kernel_rfl) (fun _ _ _ h => h) (yieldsIf_load_mid (by rfl) 115 _ rfl gq 0 (by go_simp) (rC ⟨x.num, y.num⟩) _ (fun w h => h.2.2.whole) Tryz.underlying115 rfl infoRg) (InvG.mk trivial ⟨H30.out.blk, HBq.out⟩) ?_
     refine fSxResA11_56 ?_
     refine wpAnyG_ready (rs := [6]) (by kernel_rfl) (by simp) ?_
     refine AllReadyG.plain rfl rfl (fun K hK => ?_) AllReadyG.nil
     refine wp_buildSlice1 43 115 _ rfl (rC ⟨x.num, y.num⟩) (.agg (rC ⟨x.num, y.num⟩).toArray) (by go_simp) Tryz.underlying43 info2R (show 0 < 2 by decide) (show 2 ≤ 1000 by decide) rfl ?_
     refine hK.out _ _ (InvG.mk trivial ⟨(H30.out.below ((Below.refl _ _).alloc (Nat.le_refl _) _)).blk, HBq.out.alloc _⟩) (fun _ => ?_)
     clear hK
     refine fSxResA11_56 ?_
     refine wpAnyG_ready (rs := [7]) (by kernel_rfl) (by simp) ?_
     refine AllReadyG.plain rfl rfl (fun K hK => ?_) AllReadyG.nil
     refine wp_append_own1 T_Rg _ _ rfl (rC ⟨x.num, y.num⟩) (by go_simp) H30.out.own5 (by go_simp) rfl (one_rC _) (by have h1 := H30.out.fit.f5.2; have h2 := Hsm.out.few; omega) H30.out.lts.2.2 ?_
     intro u9 w38 ho8 hg8 hat8 hone8
     have HB8 : Blk w38 gm m3.cells := H30.out.blk8 (r := m3.r5) (by simp [MV.rows]) hg8
     have HB8q : Blk w38 gq (rC ⟨x.num, y.num⟩) := HBq.out.grown hg8 (fun e => by have := Hgq.out.1 gq e.symm; omega)
     refine hK.out _ _ (InvG.mk trivial ⟨HB8, HB8q⟩) (fun _ => ?_)
     clear hK
     refine fSxResA11_56 ?_
     refine wpAnyG_take0 (i := 8) (v := .pointer (some ⟨gm, 0, none⟩)) rfl (by kernel_rfl) (fun _ _ _ h => h) (.inl ⟨by rfl, fun w hw => by go_simp⟩) (InvG.mk trivial ⟨HB8, HB8q⟩) ?_
     refine fSxResA11_56 ?_
     refine wpAnyG_take0 (i := 9) (v := .pointer (some ⟨gm, 5, none⟩)) rfl (by kernel_rfl) (fun _ _ _ h => h) (.inl ⟨by rfl, fun w hw => by go_simp⟩) (InvG.mk trivial ⟨HB8, HB8q⟩) ?_
     refine fSxResA11_56 ?_
     refine wpAnyG_ready (rs := [10]) (by kernel_rfl) (by simp) ?_
     refine AllReadyG.plain rfl rfl (fun K hK => ?_) AllReadyG.nil
     refine wp_store_lay 43 _ _ rfl gm 5 u9 [u9] m3.cells (by go_simp) (by go_simp) (one_cells hone8) HB8 info_slR (show 5 + 1 ≤ 9 by decide) (one1 hone8) ?_
     intro w39 hB9 hg9 hs9
     have H39 := Yq (H30.out.push5 (x := ⟨x.num, y.num⟩) Hfit.out ho8 hg8 hat8 hB9 hg9)
     clear ho8 hg8 hat8 hone8 HB8 HB8q hB9 hg9 hs9
     refine hK.out _ _ (InvG.past trivial (by kernel_rfl)) (fun _ => ?_)
     clear hK
     refine fSxResA11_56 ?_
     refine wpAnyG_done (by kernel_rfl) ?_ _
     have HT9 := Yq (takes_any A p 4 (by decide) v ts s4 [44] w39 H39.out.par)
     unfold Sx.takes at HT9
     cases hs9 : Sx.sees ts 4 [44] (s4)
     ·rw [hs9] at HT9 HO4
      simp only [↓reduceIte, Bool.false_eq_true] at HT9 HO4
      clear hs9
      go_wp2_with fail
      refine HT9.out.mono ?_
      rintro e w40 ⟨rfl, hp40, hk40⟩
      have H40 := Yq (H39.out.call hp40 hk40 (Sx.GoesN.refl _))
      clear hp40 hk40
      go_wp2_with fail
      go_roundg n
      case measure => omega
      case rel =>
       exact ⟨false, { m3 with v5 := u9, rs := m3.rs ++ [⟨x.num, y.num⟩] }, s4, rfl, H40, Yq ⟨fun e => (by cases e), fun _ => HO4.out⟩, Yq HSb.out, Yq (fun e => by cases e)⟩
     ·rw [hs9] at HT9 HO4
      simp only [↓reduceIte, Bool.false_eq_true] at HT9 HO4
      have Hh := Yq (sees_here (by decide) hs9)
      clear hs9
      go_wp2_with fail
      refine HT9.out.mono ?_
      rintro e w40 ⟨rfl, hp40, hk40⟩
      have H40 := Yq (H39.out.call hp40 hk40 ((Sx.GoesN.next _).mono (by omega)))
      clear hp40 hk40
      go_wp2_with fail
      go_roundg n
      case measure => omega
      case rel =>
       refine ⟨true, { m3 with v5 := u9, rs := m3.rs ++ [⟨x.num, y.num⟩] }, (s4).next, rfl, H40, Yq ⟨fun _ => HO4.out, fun e => by cases e⟩, Yq HSb.out, Yq (fun _ => ?_)⟩
       have h1 := Hh.out; have h2 := HF2.out; have h3 := HRg.out
       rw [Hrn.out] at h3
       have h5 := (h3 h1.1).2
       dsimp only at h5
       have h4 : (s4).next.pos = (s4).pos + 1 := rfl
       exact ⟨by omega, h1.1, by omega⟩
    ·rw [hs] at HT2 Hrg
     simp only [↓reduceIte, Bool.false_eq_true] at HT2 Hrg
     have Hrn : Hid (Sx.range ts s2 = (⟨x.num, 536870911⟩, s3.next.next)) := Hrg
     clear hs Hrg
     go_wp2_with fail
     refine HT2.out.mono ?_
     rintro e w26 ⟨rfl, hp26, hk26⟩
     have HQ26 := Yq (HQ25.out.call hp26 hk26)
     clear hp26 hk26
     have H30 : Hid (MAt A p B gm v ts w0 s3.next.next m3 w26.drew) := Yq ((H20.out.call HQ26.out.par (((Kept.of_below (S := [p]) Hgq.out.2.2.2)).trans2 HQ26.out.kept Hgq.out.2.2.1) ((Sx.GoesN.next s3).then (Sx.GoesN.next _) (by omega))).below (Below.refl _ _).drew)
     have HBq : Hid (Blk w26.drew gq (rC ⟨x.num, 536870911⟩)) := Yq HQ26.out.blk
     have Hfit : Hid (Sx.Fit ts (m3.rs.length + 1) s3.next.next) := Yq (by
      have h1 := HRg.out
      rw [Hrn.out] at h1
      exact HA.out.fit.f5.push HF2.out.2.1 (by obtain ⟨_, _, _, _, h3⟩ := HA.out.par; exact h3) h1)
     have HO4 := Yq (HO3.out _ _ Hrn.out)
     go_wp2_with fail
     refine wp_region_G 10 (fun _ => True) (fun w' => Blk w' gm m3.cells ∧ Blk w' gq (rC ⟨x.num, 536870911⟩)) (by kernel_rfl) trivial ⟨H30.out.blk, HBq.out⟩ (fun _ => ?_)
     refine wpAnyG_take0 (i := 0) (v := .pointer (some ⟨gm, 0, none⟩)) rfl (by kernel_rfl) (fun _ _ _ h => h) (.inl ⟨by rfl, fun w hw => by go_simp⟩) (InvG.mk trivial ⟨H30.out.blk, HBq.out⟩) ?_
     refine fSxResA11_56 ?_
     refine wpAnyG_take0 (i := 1) (v := .pointer (some ⟨gm, 0, none⟩)) rfl (by kernel_rfl) (fun _ _ _ h => h) (.inl ⟨by rfl, fun w hw => by go_simp⟩) (InvG.mk trivial ⟨H30.out.blk, HBq.out⟩) ?_
     refine fSxResA11_56 ?_
     refine wpAnyG_take0 (i := 2) (v := .pointer (some ⟨gm, 0, none⟩)) rfl (by kernel_rfl) (fun _ _ _ h => h) (.inl ⟨by rfl, fun w hw => by go_simp⟩) (InvG.mk trivial ⟨H30.out.blk, HBq.out⟩) ?_
     refine fSxResA11_56 ?_
     refine wpAnyG_take0 (i := 3) (v := .pointer (some ⟨gm, 5, none⟩)) rfl (by kernel_rfl) (fun _ _ _ h => h) (.inl ⟨by rfl, fun w hw => by go_simp⟩) (InvG.mk trivial ⟨H30.out.blk, HBq.out⟩) ?_
     refine fSxResA11_56 ?_
     refine wpAnyG_take (i := 4) (v := m3.v5) rfl (by kernel_rfl) (fun _ _ _ h => h) (.inl ⟨by rfl, fun w hw => by have hc := hw.2.1.cell (o := 5) (u := m3.v5) rfl; clear hw; go_simp⟩) (InvG.mk trivial ⟨H30.out.blk, HBq.out⟩) ?_
     refine fSxResA11_56 ?_
     refine wpAnyG_take (i := 5) (v := .agg (rC ⟨x.num, 536870911⟩).toArray) rfl (by kernel_rfl) (fun _ _ _ h => h) (yieldsIf_load_mid (by rfl) 115 _ rfl gq 0 (by go_simp) (rC ⟨x.num, 536870911⟩) _ (fun w h => h.2.2.whole) Tryz.underlying115 rfl infoRg) (InvG.mk trivial ⟨H30.out.blk, HBq.out⟩) ?_
     refine fSxResA11_56 ?_
     refine wpAnyG_ready (rs := [6]) (by kernel_rfl) (by simp) ?_
     refine AllReadyG.plain rfl rfl (fun K hK => ?_) AllReadyG.nil
     refine wp_buildSlice1 43 115 _ rfl (rC ⟨x.num, 536870911⟩) (.agg (rC ⟨x.num, 536870911⟩).toArray) (by go_simp) Tryz.underlying43 info2R (show 0 < 2 by decide) (show 2 ≤ 1000 by decide) rfl ?_
     refine hK.out _ _ (InvG.mk trivial ⟨(H30.out.below ((Below.refl _ _).alloc (Nat.le_refl _) _)).blk, HBq.out.alloc _⟩) (fun _ => ?_)
     clear hK
     refine fSxResA11_56 ?_
     refine wpAnyG_ready (rs := [7]) (by kernel_rfl) (by simp) ?_
     refine AllReadyG.plain rfl rfl (fun K hK => ?_) AllReadyG.nil
     refine wp_append_own1 T_Rg _ _ rfl (rC ⟨x.num, 536870911⟩) (by go_simp) H30.out.own5 (by go_simp) rfl (one_rC _) (by have h1 := H30.out.fit.f5.2; have h2 := Hsm.out.few; omega) H30.out.lts.2.2 ?_
     intro u9 w38 ho8 hg8 hat8 hone8
     have HB8 : Blk w38 gm m3.cells := H30.out.blk8 (r := m3.r5) (by simp [MV.rows]) hg8
     have HB8q : Blk w38 gq (rC ⟨x.num, 536870911⟩) := HBq.out.grown hg8 (fun e => by have := Hgq.out.1 gq e.symm; omega)
     refine hK.out _ _ (InvG.mk trivial ⟨HB8, HB8q⟩) (fun _ => ?_)
     clear hK
     refine fSxResA11_56 ?_
     refine wpAnyG_take0 (i := 8) (v := .pointer (some ⟨gm, 0, none⟩)) rfl (by kernel_rfl) (fun _ _ _ h => h) (.inl ⟨by rfl, fun w hw => by go_simp⟩) (InvG.mk trivial ⟨HB8, HB8q⟩) ?_
     refine fSxResA11_56 ?_
     refine wpAnyG_take0 (i := 9) (v := .pointer (some ⟨gm, 5, none⟩)) rfl (by kernel_rfl) (fun _ _ _ h => h) (.inl ⟨by rfl, fun w hw => by go_simp⟩) (InvG.mk trivial ⟨HB8, HB8q⟩) ?_
     refine fSxResA11_56 ?_
     refine wpAnyG_ready (rs := [10]) (by kernel_rfl) (by simp) ?_
     refine AllReadyG.plain rfl rfl (fun K hK => ?_) AllReadyG.nil
     refine wp_store_lay 43 _ _ rfl gm 5 u9 [u9] m3.cells (by go_simp) (by go_simp) (one_cells hone8) HB8 info_slR (show 5 + 1 ≤ 9 by decide) (one1 hone8) ?_
     intro w39 hB9 hg9 hs9
     have H39 := Yq (H30.out.push5 (x := ⟨x.num, 536870911⟩) Hfit.out ho8 hg8 hat8 hB9 hg9)
     clear ho8 hg8 hat8 hone8 HB8 HB8q hB9 hg9 hs9
     refine hK.out _ _ (InvG.past trivial (by kernel_rfl)) (fun _ => ?_)
     clear hK
     refine fSxResA11_56 ?_
     refine wpAnyG_done (by kernel_rfl) ?_ _
     have HT9 := Yq (takes_any A p 4 (by decide) v ts s3.next.next [44] w39 H39.out.par)
     unfold Sx.takes at HT9
     cases hs9 : Sx.sees ts 4 [44] (s3.next.next)
     ·rw [hs9] at HT9 HO4
      simp only [↓reduceIte, Bool.false_eq_true] at HT9 HO4
      clear hs9
      go_wp2_with fail
      refine HT9.out.mono ?_
      rintro e w40 ⟨rfl, hp40, hk40⟩
      have H40 := Yq (H39.out.call hp40 hk40 (Sx.GoesN.refl _))
      clear hp40 hk40
      go_wp2_with fail
      go_roundg n
      case measure => omega
      case rel =>
       exact ⟨false, { m3 with v5 := u9, rs := m3.rs ++ [⟨x.num, 536870911⟩] }, s3.next.next, rfl, H40, Yq ⟨fun e => (by cases e), fun _ => HO4.out⟩, Yq HSb.out, Yq (fun e => by cases e)⟩
     ·rw [hs9] at HT9 HO4
      simp only [↓reduceIte, Bool.false_eq_true] at HT9 HO4
      have Hh := Yq (sees_here (by decide) hs9)
      clear hs9
      go_wp2_with fail
      refine HT9.out.mono ?_
      rintro e w40 ⟨rfl, hp40, hk40⟩
      have H40 := Yq (H39.out.call hp40 hk40 ((Sx.GoesN.next _).mono (by omega)))
      clear hp40 hk40
      go_wp2_with fail
      go_roundg n
      case measure => omega
      case rel =>
       refine ⟨true, { m3 with v5 := u9, rs := m3.rs ++ [⟨x.num, 536870911⟩] }, (s3.next.next).next, rfl, H40, Yq ⟨fun _ => HO4.out, fun e => by cases e⟩, Yq HSb.out, Yq (fun _ => ?_)⟩
       have h1 := Hh.out; have h2 := HF2.out; have h3 := HRg.out
       rw [Hrn.out] at h3
       have h5 := (h3 h1.1).2
       dsimp only at h5
       have h4 : (s3.next.next).next.pos = (s3.next.next).pos + 1 := rfl
       exact ⟨by omega, h1.1, by omega⟩
theorem reserved_any (A : Nat → Addr) (p B gm : Nat) (v : Value) (ts : List Lx.Tok) (s : Sx.St) (m : MV) (w w0 : World) (hs : s.err = none) (h : MAt A p B gm v ts w0 s m w) :
  Calls Tryz.prog 77 #[.pointer (some ⟨p, 0, none⟩), .pointer (some ⟨gm, 0, none⟩)] w (MsgPartPost A p B gm v ts w0 (Sx.reserved ts m.msg s)) := by
 by_cases hk : (Sx.peek ts s).kind = 3
 ·exact resnames_any A p B gm v ts s m w w0 hs hk h
 ·exact resranges_any A p B gm v ts s m w w0 hs hk h
end Go.Proofs.YtpcfdngnmigkfaaGreatDoor
