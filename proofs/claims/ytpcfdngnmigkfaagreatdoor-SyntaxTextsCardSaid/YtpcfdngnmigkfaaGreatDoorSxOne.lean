/- Package syntax, walked: oneofs; does a map come? -/
import Derived.Test.YtpcfdngnmigkfaaGreatDoorSxMsg
set_option linter.unusedVariables false
set_option linter.unusedSimpArgs false
namespace Go.Proofs.YtpcfdngnmigkfaaGreatDoor
open Go.RowKit
theorem fSxOneA13_65 {P : Program} {M : Region.Mode} {O : Array Oper} {Q : Exit → Act → World → Prop} {Y Z : World → Prop} {f F : Nat} {a b c e g i j k l m n o p : Bool} {q r s t u v x y z a0 a1 a2 a3 a4 a5 a6 a7 a8 a9 aA aB aC aD aE aF aG aH aI aJ aK aL aM aN aO aP aQ aR aS aT aU aV aW aX aY aZ b0 b1 b2 b3 b4 b5 b6 b7 b8 b9 bA bB bC bD bE bF bG bH bI bJ : Value} {d} {w : World} (h : wpAnyG P M O Q Y Z f F #[a,b,c,e,g,i,j,k,l,m,n,o,p] ⟨#[q,r,s,t,u,v,x,y,z,a0,a1,a2,a3,a4,a5,a6,a7,a8,a9,aA,aB,aC,aD,aE,aF,aG,aH,aI,aJ,aK,aL,aM,aN,aO,aP,aQ,aR,aS,aT,aU,aV,aW,aX,aY,aZ,b0,b1,b2,b3,b4,b5,b6,b7,b8,b9,bA,bB,bC,bD,bE,bF,bG,bH,bI,bJ],d⟩ w) : wpAnyG P M O Q Y Z f F #[a,b,c,e,g,i,j,k,l,m,n,o,p] ⟨#[q,r,s,t,u,v,x,y,z,a0,a1,a2,a3,a4,a5,a6,a7,a8,a9,aA,aB,aC,aD,aE,aF,aG,aH,aI,aJ,aK,aL,aM,aN,aO,aP,aQ,aR,aS,aT,aU,aV,aW,aX,aY,aZ,b0,b1,b2,b3,b4,b5,b6,b7,b8,b9,bA,bB,bC,bD,bE,bF,bG,bH,bI,bJ],d⟩ w := h
theorem fSxOneA17_65 {P : Program} {M : Region.Mode} {O : Array Oper} {Q : Exit → Act → World → Prop} {Y Z : World → Prop} {f F : Nat} {a b c e g i j k l m n o p q r s t : Bool} {u v x y z a0 a1 a2 a3 a4 a5 a6 a7 a8 a9 aA aB aC aD aE aF aG aH aI aJ aK aL aM aN aO aP aQ aR aS aT aU aV aW aX aY aZ b0 b1 b2 b3 b4 b5 b6 b7 b8 b9 bA bB bC bD bE bF bG bH bI bJ bK bL bM bN : Value} {d} {w : World} (h : wpAnyG P M O Q Y Z f F #[a,b,c,e,g,i,j,k,l,m,n,o,p,q,r,s,t] ⟨#[u,v,x,y,z,a0,a1,a2,a3,a4,a5,a6,a7,a8,a9,aA,aB,aC,aD,aE,aF,aG,aH,aI,aJ,aK,aL,aM,aN,aO,aP,aQ,aR,aS,aT,aU,aV,aW,aX,aY,aZ,b0,b1,b2,b3,b4,b5,b6,b7,b8,b9,bA,bB,bC,bD,bE,bF,bG,bH,bI,bJ,bK,bL,bM,bN],d⟩ w) : wpAnyG P M O Q Y Z f F #[a,b,c,e,g,i,j,k,l,m,n,o,p,q,r,s,t] ⟨#[u,v,x,y,z,a0,a1,a2,a3,a4,a5,a6,a7,a8,a9,aA,aB,aC,aD,aE,aF,aG,aH,aI,aJ,aK,aL,aM,aN,aO,aP,aQ,aR,aS,aT,aU,aV,aW,aX,aY,aZ,b0,b1,b2,b3,b4,b5,b6,b7,b8,b9,bA,bB,bC,bD,bE,bF,bG,bH,bI,bJ,bK,bL,bM,bN],d⟩ w := h
theorem Par.back {A : Nat → Addr} {p : Nat} {v : Value} {ts : List Lx.Tok} {s : Sx.St} {w w' : World} (hE : Env A p v ts w) (h : Par A p v ts s w) (he : s.err = none) (hpos : 1 ≤ s.pos) (hW : w.setCell ⟨p, 1, none⟩ (.int .i64 ((s.pos : Int) - 1)) = w') : Par A p v ts s.back w' ∧ Kept [p] w w' := by
 have hp := h.lt
 obtain ⟨ev, hB, hEr, _, hl⟩ := h
 rw [he] at hEr
 have hEr : ev = .nilIface := hEr
 subst hEr
 have hg : w.grownBy w' (some p) := by rw [← hW]; exact grown_setCell _ _ _
 have hk : Kept [p] w w' := Kept.of_grown hg (by simp)
 refine ⟨Par.again (ev := .nilIface) (hE.kept hk hp (fun k hm => by rw [List.mem_singleton.1 hm]; exact Nat.le_refl _)) ?_ (by show ErrAt A p w' s.err _; rw [he]; rfl) (by show s.pos - 1 ≤ _; omega), hk⟩
 have e : (s.pos : Int) - 1 = (s.back.pos : Nat) := by show _ = ((s.pos - 1 : Nat) : Int); omega
 rw [← hW, e]; exact hB.setCell (o := 1) _
theorem fail_back_goes {ts : List Lx.Tok} {s : Sx.St} (he : s.err = none) : Sx.GoesN 0 s (Sx.fail ts s.back) := fun e => by
 unfold Sx.fail at e
 have h0 : s.back.err = none := he
 rw [h0] at e
 cases e
theorem Par.cells {A : Nat → Addr} {p : Nat} {v : Value} {ts : List Lx.Tok} {s : Sx.St} {w : World} (h : Par A p v ts s w) : ∃ ev, w.cell? ⟨p, 1, none⟩ = some (.int .i64 (s.pos : Nat)) ∧ w.cell? ⟨p, 2, none⟩ = some ev ∧ w.frozen? ⟨p, 1, none⟩ = false ∧ w.frozen? ⟨p, 2, none⟩ = false ∧ (s.err = none → ev = .nilIface) ∧ (s.err ≠ none → ∃ g, ev = .iface 73 (.pointer (some ⟨g, 0, none⟩))) ∧ s.pos ≤ ts.length ∧ s.pos ≤ 9223372036854775807 := by
 obtain ⟨ev, hB, hE, hF, hl⟩ := h
 refine ⟨ev, hB.cell (o := 1) rfl, hB.cell (o := 2) rfl, hB.frozen 1, hB.frozen 2, fun he => by rw [he] at hE; exact hE, fun he => ?_, hl, ?_⟩
 ·cases hx : s.err with
  | none => exact absurd hx he
  | some x => rw [hx] at hE; obtain ⟨g, e, _⟩ := hE; exact ⟨g, e⟩
 ·obtain ⟨_, _, _, h1, h2, _⟩ := hF.len
  unfold maxLen at h2; omega
theorem oneof_mk (ts : List Lx.Tok) (nm : Lx.Bs) (fs : List Sx.Fld) (os : List Lx.Bs) (ms : List Sx.Msg) (es : List Sx.Enm) (rs : List Sx.Rng) (ns : List Lx.Bs) (li co : Nat) (s : Sx.St) : Sx.oneof ts (.mk nm fs os ms es rs ns li co) s =
  (.mk nm (Sx.oneofs ts (ts.length + 2) (os.length + 1) fs (Sx.sign ts 123 (Sx.of ts 1 s).2)).1 (os ++ [(Sx.of ts 1 s).1.text]) ms es rs ns li co, Sx.early ts (decide ((Sx.oneofs ts (ts.length + 2) (os.length + 1) fs (Sx.sign ts 123 (Sx.of ts 1 s).2)).1.length ≠ fs.length)) (Sx.oneofs ts (ts.length + 2) (os.length + 1) fs (Sx.sign ts 123 (Sx.of ts 1 s).2)).2) := rfl
def SameBut1 (m m' : MV) : Prop := m'.nm = m.nm ∧ m'.li = m.li ∧ m'.co = m.co ∧ m'.os = m.os ∧ m'.ms = m.ms ∧ m'.es = m.es ∧ m'.rs = m.rs ∧ m'.ns = m.ns
def MsgPartPost (A : Nat → Addr) (p B gm : Nat) (v : Value) (ts : List Lx.Tok) (w0 : World) (r : Sx.Msg × Sx.St) (e : Ending) (w' : World) : Prop :=
 e = .returned (.tuple #[]) ∧ ∃ m' : MV, m'.msg = r.1 ∧ MAt A p B gm v ts w0 r.2 m' w'
set_option maxHeartbeats 2000000 in
set_option maxRecDepth 100000 in
theorem mapping_any (A : Nat → Addr) (p : Nat) (v : Value) (ts : List Lx.Tok) (s : Sx.St) (w : World) (hE : Env A p v ts w) (h : Par A p v ts s w) :
  Calls Tryz.prog 79 #[.pointer (some ⟨p, 0, none⟩)] w fun e w' => e = .returned (.bool (Sx.sees ts 1 Sx.bMap s && Sx.sees ts 4 [60] s.next)) ∧ Par A p v ts (if (Sx.sees ts 1 Sx.bMap s && Sx.sees ts 4 [60] s.next) = true then s.next else s) w' ∧ Kept [p] w w' := by
 have HW := Yq (pword_any A p v ts s Sx.bMap w h)
 have Hv := Yq hE; have Hplt := Yq h.lt
 unfold Sx.takes at HW
 clear h hE
 obtain ⟨b, hb⟩ : ∃ b, b = Sx.sees ts 1 Sx.bMap s := ⟨_, rfl⟩
 have Hpos := Yq (fun e => (sees_here (ts := ts) (k := 1) (t := Sx.bMap) (s := s) (by decide) e))
 rw [← hb] at HW Hpos ⊢
 clear hb
 cases b
 ·simp only [Bool.false_and, Bool.false_eq_true, ↓reduceIte] at HW ⊢
  go_enter Tryz.func79, Tryz.ntmps79
  go_wp2_with fail
  refine HW.out.mono ?_
  rintro e w1 ⟨rfl, hp1, hk1⟩
  go_wp2_with fail
  go_ret
  exact ⟨rfl, hp1, hk1⟩
 ·simp only [Bool.true_and, ↓reduceIte] at HW ⊢
  have Hps := Yq (Hpos.out rfl)
  clear Hpos
  obtain ⟨c, hc⟩ : ∃ c, c = Sx.sees ts 4 [60] s.next := ⟨_, rfl⟩
  have HS := Yq (fun w0 (h0 : Par A p v ts s.next w0) => sees_any A p 4 v ts s.next [60] w0 h0)
  rw [← hc] at HS ⊢
  clear hc
  cases c
  ·simp only [Bool.false_eq_true, ↓reduceIte]
   go_enter Tryz.func79, Tryz.ntmps79
   go_wp2_with fail
   refine HW.out.mono ?_
   rintro e w1 ⟨rfl, hp1, hk1⟩
   have HS1 := Yq (HS.out w1 hp1)
   have HP1 := Yq hp1; have HK1 := Yq hk1
   clear hp1 hk1
   go_wp2_with fail
   refine HS1.out.mono ?_
   rintro e w2 ⟨rfl, hb2⟩
   have HP2 := Yq (HP1.out.below hb2)
   have HK2 := Yq (HK1.out.trans (Kept.of_below hb2))
   clear hb2
   obtain ⟨ev, c1, c2, f1, f2, _, _, hl, hcm⟩ := HP2.out.cells
   have hnx : (s.next.pos : Nat) = s.pos + 1 := rfl
   have hpos1 : (1 : Int) ≤ (s.next.pos : Nat) := by omega
   go_upto_region 6 with fail
   generalize hW : w2.setCell ⟨p, 1, none⟩ (.int .i64 (s.pos : Int)) = w3
   have HE2 := Hv.out.kept HK2.out Hplt.out (fun k hm => by rw [List.mem_singleton.1 hm]; exact Nat.le_refl _)
   obtain ⟨hp3, hk3⟩ := Par.back (w' := w3) HE2 HP2.out (show s.next.err = none from Hps.out.1) (by omega) (by rw [show (s.next.pos : Int) - 1 = (s.pos : Int) by omega]; exact hW)
   have hbk : s.next.back = s := rfl
   rw [hbk] at hp3
   have HP3 := Yq hp3; have HK3 := Yq (HK2.out.trans hk3)
   clear hW hp3 hk3 c1 c2 f1 f2 hbk HE2
   go_wp2_with fail
   go_ret
   exact ⟨rfl, HP3.out, HK3.out⟩
  ·simp only [↓reduceIte]
   go_enter Tryz.func79, Tryz.ntmps79
   go_wp2_with fail
   refine HW.out.mono ?_
   rintro e w1 ⟨rfl, hp1, hk1⟩
   have HS1 := Yq (HS.out w1 hp1)
   have HP1 := Yq hp1; have HK1 := Yq hk1
   clear hp1 hk1
   go_wp2_with fail
   refine HS1.out.mono ?_
   rintro e w2 ⟨rfl, hb2⟩
   go_wp2_with fail
   go_ret
   exact ⟨rfl, HP1.out.below hb2, HK1.out.trans (Kept.of_below hb2)⟩
set_option maxHeartbeats 8000000 in
set_option maxRecDepth 100000 in
theorem oneof_any (A : Nat → Addr) (p B gm : Nat) (v : Value) (ts : List Lx.Tok) (s : Sx.St) (m : MV) (w w0 : World) (hs : s.err = none) (h : MAt A p B gm v ts w0 s m w) :
  Calls Tryz.prog 76 #[.pointer (some ⟨p, 0, none⟩), .pointer (some ⟨gm, 0, none⟩)] w (MsgPartPost A p B gm v ts w0 (Sx.oneof ts m.msg s)) := by
 have H := Yq h; have Hsm := Yq h.env.small; have Hs := Yq hs
 obtain ⟨R, hR⟩ : ∃ R, R = Sx.oneof ts m.msg s := ⟨_, rfl⟩
 rw [← hR]
 have HR := Yq hR
 have hfd := field_text
 have H0 := Yq (h.below (Below.refl _ _).drew)
 have HN := Yq (name_arr A p v ts s w.drew H0.out.env.vars H0.out.par)
 have Hgo := Yq (Sx.of_go ts 1 s)
 obtain ⟨N, hN⟩ : ∃ N, N = Sx.of ts 1 s := ⟨_, rfl⟩
 rw [← hN] at HN Hgo
 have HNe := Yq hN
 obtain ⟨x, s1⟩ := N
 simp only at HN Hgo
 clear hN hR h hs
 go_enter Tryz.func76, Tryz.ntmps76
 go_wp2_with fail
 refine wp_region_G 12 (fun _ => True) (fun w' => Blk w' gm m.cells) (by kernel_rfl) trivial H0.out.blk (fun _ => ?_)
 refine wpAnyG_take0 (i := 0) (v := .pointer (some ⟨gm, 0, none⟩)) rfl (by kernel_rfl) (fun _ _ _ h => h) (.inl ⟨by rfl, fun w hw => by go_simp⟩) (InvG.mk trivial H0.out.blk) ?_
 refine fSxOneA13_65 ?_
 refine wpAnyG_take0 (i := 1) (v := .pointer (some ⟨gm, 0, none⟩)) rfl (by kernel_rfl) (fun _ _ _ h => h) (.inl ⟨by rfl, fun w hw => by go_simp⟩) (InvG.mk trivial H0.out.blk) ?_
 refine fSxOneA13_65 ?_
 refine wpAnyG_take0 (i := 2) (v := .pointer (some ⟨gm, 0, none⟩)) rfl (by kernel_rfl) (fun _ _ _ h => h) (.inl ⟨by rfl, fun w hw => by go_simp⟩) (InvG.mk trivial H0.out.blk) ?_
 refine fSxOneA13_65 ?_
 refine wpAnyG_take0 (i := 3) (v := .pointer (some ⟨gm, 2, none⟩)) rfl (by kernel_rfl) (fun _ _ _ h => h) (.inl ⟨by rfl, fun w hw => by go_simp⟩) (InvG.mk trivial H0.out.blk) ?_
 refine fSxOneA13_65 ?_
 refine wpAnyG_take (i := 4) (v := m.v2) rfl (by kernel_rfl) (fun _ _ _ h => h) (.inl ⟨by rfl, fun w hw => by have hc := hw.2.cell (o := 2) (u := m.v2) rfl; clear hw; go_simp⟩) (InvG.mk trivial H0.out.blk) ?_
 refine fSxOneA13_65 ?_
 refine wpAnyG_take0 (i := 5) (v := .pointer (some ⟨p, 0, none⟩)) rfl (by kernel_rfl) (fun _ _ _ h => h) (.inl ⟨by rfl, fun w hw => by go_simp⟩) (InvG.mk trivial H0.out.blk) ?_
 refine fSxOneA13_65 ?_
 refine wpAnyG_ready (rs := [6]) (by kernel_rfl) (by simp) ?_
 refine AllReadyG.plain rfl rfl (fun K hK => ?_) AllReadyG.nil
 go_simp
 refine HN.out.mono ?_
 rintro e w21 ⟨rfl, hp21, hk21⟩
 have H21 := Yq (H0.out.call hp21 hk21 (Hgo.out.mono (by omega)))
 have Hfit : Hid (Sx.Fit ts (m.os.length + 1) s1) := Yq (H0.out.fit.f2.push Hs.out (by obtain ⟨_, _, _, _, h3⟩ := H0.out.par; exact h3) Hgo.out)
 clear hp21 hk21
 refine hK.out _ _ (InvG.mk trivial H21.out.blk) (fun _ => ?_)
 clear hK
 refine fSxOneA13_65 ?_
 refine wpAnyG_take0 (i := 7) (v := .string (toB x.text)) rfl (by kernel_rfl) (fun _ _ _ h => h) (.inl ⟨by rfl, fun w hw => by go_simp⟩) (InvG.mk trivial H21.out.blk) ?_
 refine fSxOneA13_65 ?_
 refine wpAnyG_ready (rs := [8]) (by kernel_rfl) (by simp) ?_
 refine AllReadyG.plain rfl rfl (fun K hK => ?_) AllReadyG.nil
 refine wp_buildSlice1 42 9 _ rfl (sC x.text) (.string (toB x.text)) (by go_simp) Tryz.underlying42 info2S (show 0 < 1 by decide) (show 1 ≤ 1000 by decide) rfl ?_
 refine hK.out _ _ (InvG.mk trivial ((H21.out.below ((Below.refl _ _).alloc (Nat.le_refl _) _)).blk)) (fun _ => ?_)
 clear hK
 refine fSxOneA13_65 ?_
 refine wpAnyG_ready (rs := [9]) (by kernel_rfl) (by simp) ?_
 refine AllReadyG.plain rfl rfl (fun K hK => ?_) AllReadyG.nil
 refine wp_append_own1 T_St _ _ rfl (sC x.text) (by go_simp) H21.out.own2 (by go_simp) rfl (one_sC x.text) (by have h1 := H21.out.fit.f2.2; have h2 := Hsm.out.few; omega) H21.out.lts.2.2 ?_
 intro u9 w8 ho8 hg8 hat8 hone8
 have HB8 : Blk w8 gm m.cells := H21.out.blk8 (r := m.r2) (by simp [MV.rows]) hg8
 refine hK.out _ _ (InvG.mk trivial HB8) (fun _ => ?_)
 clear hK
 refine fSxOneA13_65 ?_
 refine wpAnyG_take0 (i := 10) (v := .pointer (some ⟨gm, 0, none⟩)) rfl (by kernel_rfl) (fun _ _ _ h => h) (.inl ⟨by rfl, fun w hw => by go_simp⟩) (InvG.mk trivial HB8) ?_
 refine fSxOneA13_65 ?_
 refine wpAnyG_take0 (i := 11) (v := .pointer (some ⟨gm, 2, none⟩)) rfl (by kernel_rfl) (fun _ _ _ h => h) (.inl ⟨by rfl, fun w hw => by go_simp⟩) (InvG.mk trivial HB8) ?_
 refine fSxOneA13_65 ?_
 refine wpAnyG_ready (rs := [12]) (by kernel_rfl) (by simp) ?_
 refine AllReadyG.plain rfl rfl (fun K hK => ?_) AllReadyG.nil
 refine wp_store_lay 42 _ _ rfl gm 2 u9 [u9] m.cells (by go_simp) (by go_simp) (one_cells hone8) HB8 info_slS (show 2 + 1 ≤ 9 by decide) (one1 hone8) ?_
 intro w9 hB9 hg9 hs9
 have H9p := Yq (H21.out.push2 Hfit.out ho8 hg8 hat8 hB9 hg9)
 clear ho8 hg8 hat8 hone8 HB8 hB9 hg9 hs9
 refine hK.out _ _ (InvG.past trivial (by kernel_rfl)) (fun _ => ?_)
 clear hK
 refine fSxOneA13_65 ?_
 refine wpAnyG_done (by kernel_rfl) ?_ _
 obtain ⟨m2, hm2⟩ : ∃ z : MV, z = { m with v2 := u9, os := m.os ++ [x.text] } := ⟨_, rfl⟩
 rw [← hm2] at H9p
 have H9 : Hid (MAt A p B gm v ts w0 s1 m2 w9) := H9p
 have Hm2 : Hid (m2.os.length = m.os.length + 1 ∧ m2.fs = m.fs ∧ SameBut1 { m with os := m.os ++ [x.text] } m2) := Yq (by rw [hm2]; exact ⟨by simp, rfl, rfl, rfl, rfl, rfl, rfl, rfl, rfl, rfl⟩)
 clear hm2 H9p
 have HS := Yq (sign_any A p 123 v ts s1 w9 H9.out.env.vars H9.out.env.glt H9.out.par)
 go_wp2_with fail
 refine HS.out.mono ?_
 rintro e w10 ⟨rfl, hp10, hk10⟩
 have H10 := Yq (H9.out.call hp10 hk10 ((Sx.sign_go ts 123 s1).mono (by omega)))
 clear hp10 hk10
 obtain ⟨a1, q1, hv1, _⟩ := own_slice H10.out.own1
 have c1 : w10.cell? ⟨gm, 1, none⟩ = some (.slice a1 m2.fs.length q1) := by rw [← hv1]; exact H10.out.blk.cell (o := 1) rfl
 obtain ⟨had, hhad⟩ : ∃ z, z = m2.fs.length := ⟨_, rfl⟩
 rw [← hhad] at c1
 have Hhad : Hid (had = m.fs.length) := Yq (by rw [hhad, Hm2.out.2.1])
 clear hhad hv1
 go_upto_region 3 with fail
 obtain ⟨O, hO⟩ : ∃ O, O = Sx.oneofs ts (ts.length + 2) m2.os.length m2.fs (Sx.sign ts 123 s1) := ⟨_, rfl⟩
 have HEnd : Hid (∀ m' : MV, SameBut1 m2 m' → m'.fs = O.1 → R = (m'.msg, Sx.early ts (decide (m'.fs.length ≠ had)) O.2)) := Yq (fun m' hm' hf' => by
  rw [HR.out]
  obtain ⟨e1, e2, e3, e4, e5, e6, e7, e8⟩ := hm'
  obtain ⟨hl, hfs, g1, g2, g3, g4, g5, g6, g7, g8⟩ := Hm2.out
  unfold MV.msg
  rw [oneof_mk]
  have e0 := HNe.out
  rw [← e0]
  dsimp only
  rw [← hl, ← hfs, ← hO, ← hf', Hhad.out, ← hfs, e1, e2, e3, e4, e5, e6, e7, e8, g1, g2, g3, g4, g5, g6, g7, g8])
 have HO := Yq hO
 clear hO c1 HR
 go_loopg [] (ts.length + 2) (fun n wr => ∃ (m' : MV) (s' : Sx.St), Hid (MAt A p B gm v ts w0 s' m' wr) ∧ Hid (O = Sx.oneofs ts n m'.os.length m'.fs s') ∧ Hid (SameBut1 m2 m') ∧ Hid (s'.err = none → ts.length + 2 ≤ s'.pos + n))
 case atStart => exact ⟨m2, _, H10, HO, Yq ⟨rfl, rfl, rfl, rfl, rfl, rfl, rfl, rfl⟩, Yq (fun _ => by omega)⟩
 case round =>
  obtain ⟨m3, s2, HA, HOn, HSb, HF⟩ := hrel
  have HM := Yq (more_any A p v ts s2 wr HA.out.par)
  have Hmg := Yq (Sx.more_go ts s2)
  have Hpo := Yq (fun h h2 => Sx.more_end ts (s := s2) h h2)
  have Hst := Yq (Sx.oneofs_step ts HOn.out HF.out (by obtain ⟨_, _, _, _, h3⟩ := HA.out.par; exact h3))
  clear HOn HF
  generalize Sx.more ts s2 = M at *
  obtain ⟨b, s3⟩ := M
  simp only at HM Hmg Hpo Hst
  cases b
  ·have HOe := Yq (Hst.out.1 rfl)
   have HEnd2 : Hid (R = (m3.msg, Sx.early ts (decide (m3.fs.length ≠ had)) s3)) := Yq (by rw [HEnd.out m3 HSb.out (by rw [HOe.out]), HOe.out])
   have Hpos := Yq (Hpo.out rfl)
   clear Hst HOe HEnd Hpo HO
   go_wp2_with fail
   refine HM.out.mono ?_
   rintro e w20 ⟨rfl, hp20, hk20⟩
   have H20 := Yq (HA.out.call hp20 hk20 (Hmg.out))
   clear hp20 hk20
   obtain ⟨a1, q1, hv1, _⟩ := own_slice H20.out.own1
   have c1 : w20.cell? ⟨gm, 1, none⟩ = some (.slice a1 m3.fs.length q1) := by rw [← hv1]; exact H20.out.blk.cell (o := 1) rfl
   obtain ⟨ev, cp, c2, f1, f2, hn0, hn1, hl, hcm⟩ := H20.out.par.cells
   obtain ⟨nf, hnf⟩ : ∃ z, z = m3.fs.length := ⟨_, rfl⟩
   rw [← hnf] at c1
   have Hnf := Yq hnf
   clear hv1 hnf
   by_cases he : s3.err = none
   ·have := hn0 he
    subst this
    have Hen := Yq he
    by_cases hq : nf = had
    ·have hz0 : (nf : Int) = (had : Int) := by omega
     have hz : ((nf : Int) == (had : Int)) = true := by rw [hq]; exact beq_self_eq_true _
     have hpos := Hpos.out he
     have hpos1 : (1 : Int) ≤ (s3.pos : Nat) := by omega
     have Hst2 : Hid (Sx.early ts (decide (m3.fs.length ≠ had)) s3 = Sx.fail ts s3.back) := Yq (by unfold Sx.early; rw [he, ← Hnf.out, hq]; simp)
     clear hn0 hn1 he hq hl
     go_upto_region 7 with fail
     generalize hW : w20.setCell ⟨p, 1, none⟩ (.int .i64 ((s3.pos : Int) - 1)) = w21
     obtain ⟨hp21, hk21⟩ := Par.back H20.out.env H20.out.par Hen.out hpos hW
     have HE21 := Yq (H20.out.env.kept hk21 H20.out.par.lt (fun k hm => by rw [List.mem_singleton.1 hm]; exact Nat.le_refl _))
     have HFl := Yq (fail_any A p v ts s3.back w21 HE21.out.vars hp21)
     have Hk21 := Yq hk21
     clear hW hp21 hk21 c1 c2 cp f1 f2 hpos hpos1
     go_wp2_with fail
     refine HFl.out.mono ?_
     rintro e w22 ⟨rfl, hp22, hk22⟩
     have H22 := Yq (H20.out.call hp22 (Hk21.out.trans hk22) (fail_back_goes Hen.out))
     clear hp22 hk22
     go_wp2_with fail
     go_end0
     rw [HEnd2.out, Hst2.out]
     exact ⟨rfl, m3, rfl, H22.out⟩
    ·have hz0 : ¬ (nf : Int) = (had : Int) := by omega
     have hz : ((nf : Int) == (had : Int)) = false := beq_eq_false_iff_ne.2 hz0
     have Hst2 : Hid (Sx.early ts (decide (m3.fs.length ≠ had)) s3 = s3) := Yq (by unfold Sx.early; rw [he, ← Hnf.out, decide_eq_true hq]; rfl)
     clear hn0 hn1 he hq hl
     go_wp2_with fail
     go_end0
     rw [HEnd2.out, Hst2.out]
     exact ⟨rfl, m3, rfl, H20.out⟩
   ·obtain ⟨g, hg⟩ := hn1 he
    subst hg
    have Hst2 : Hid (Sx.early ts (decide (m3.fs.length ≠ had)) s3 = s3) := Yq (by
     unfold Sx.early
     cases hx : s3.err with
     | none => exact absurd hx he
     | some z => rfl)
    clear hn0 hn1 he hl
    go_wp2_with fail
    go_end0
    rw [HEnd2.out, Hst2.out]
    exact ⟨rfl, m3, rfl, H20.out⟩
  ·obtain ⟨n, hn, hO2, hnone, hfuel⟩ := Hst.out.2 rfl
   subst hn
   have HO2 := Yq hO2; have Hnone := Yq hnone; have Hfuel := Yq hfuel
   clear Hst Hpo HO HEnd hO2 hnone hfuel
   go_wp2_with fail
   refine HM.out.mono ?_
   rintro e w20 ⟨rfl, hp20, hk20⟩
   have H20 := Yq (HA.out.call hp20 hk20 (Hmg.out))
   clear hp20 hk20
   have H20d := Yq (H20.out.below (Below.refl _ _).drew)
   obtain ⟨a2, q2, hv2, _⟩ := own_slice H20d.out.own2
   have Hv2 := Yq hv2
   clear hv2
   have Hfg := Yq (Sx.field_go ts 1 m3.os.length s3)
   have HFd := Yq (field_any A p 1 m3.os.length v ts s3 w20.drew H20d.out.env H20d.out.par)
   generalize Sx.field ts 1 m3.os.length s3 = X at *
   obtain ⟨y, s4⟩ := X
   simp only at HO2 Hfg
   unfold FldPost at HFd
   simp only at HFd
   obtain ⟨no, hno⟩ : ∃ z, z = m3.os.length := ⟨_, rfl⟩
   rw [← hno] at HFd Hv2
   have Hno := Yq hno
   clear hno
   go_wp2_with fail
   refine wp_region_G 16 (fun _ => True) (fun w' => Blk w' gm m3.cells) (by kernel_rfl) trivial H20d.out.blk (fun _ => ?_)
   refine wpAnyG_take0 (i := 0) (v := .pointer (some ⟨gm, 0, none⟩)) rfl (by kernel_rfl) (fun _ _ _ h => h) (.inl ⟨by rfl, fun w hw => by go_simp⟩) (InvG.mk trivial H20d.out.blk) ?_
   refine fSxOneA17_65 ?_
   refine wpAnyG_take0 (i := 1) (v := .pointer (some ⟨gm, 0, none⟩)) rfl (by kernel_rfl) (fun _ _ _ h => h) (.inl ⟨by rfl, fun w hw => by go_simp⟩) (InvG.mk trivial H20d.out.blk) ?_
   refine fSxOneA17_65 ?_
   refine wpAnyG_take0 (i := 2) (v := .pointer (some ⟨gm, 0, none⟩)) rfl (by kernel_rfl) (fun _ _ _ h => h) (.inl ⟨by rfl, fun w hw => by go_simp⟩) (InvG.mk trivial H20d.out.blk) ?_
   refine fSxOneA17_65 ?_
   refine wpAnyG_take0 (i := 3) (v := .pointer (some ⟨gm, 1, none⟩)) rfl (by kernel_rfl) (fun _ _ _ h => h) (.inl ⟨by rfl, fun w hw => by go_simp⟩) (InvG.mk trivial H20d.out.blk) ?_
   refine fSxOneA17_65 ?_
   refine wpAnyG_take (i := 4) (v := m3.v1) rfl (by kernel_rfl) (fun _ _ _ h => h) (.inl ⟨by rfl, fun w hw => by have hc := hw.2.cell (o := 1) (u := m3.v1) rfl; clear hw; go_simp⟩) (InvG.mk trivial H20d.out.blk) ?_
   refine fSxOneA17_65 ?_
   refine wpAnyG_take0 (i := 5) (v := .pointer (some ⟨p, 0, none⟩)) rfl (by kernel_rfl) (fun _ _ _ h => h) (.inl ⟨by rfl, fun w hw => by go_simp⟩) (InvG.mk trivial H20d.out.blk) ?_
   refine fSxOneA17_65 ?_
   refine wpAnyG_take0 (i := 6) (v := .pointer (some ⟨gm, 0, none⟩)) rfl (by kernel_rfl) (fun _ _ _ h => h) (.inl ⟨by rfl, fun w hw => by go_simp⟩) (InvG.mk trivial H20d.out.blk) ?_
   refine fSxOneA17_65 ?_
   refine wpAnyG_take0 (i := 7) (v := .pointer (some ⟨gm, 0, none⟩)) rfl (by kernel_rfl) (fun _ _ _ h => h) (.inl ⟨by rfl, fun w hw => by go_simp⟩) (InvG.mk trivial H20d.out.blk) ?_
   refine fSxOneA17_65 ?_
   refine wpAnyG_take0 (i := 8) (v := .pointer (some ⟨gm, 2, none⟩)) rfl (by kernel_rfl) (fun _ _ _ h => h) (.inl ⟨by rfl, fun w hw => by go_simp⟩) (InvG.mk trivial H20d.out.blk) ?_
   refine fSxOneA17_65 ?_
   refine wpAnyG_take (i := 9) (v := .slice a2 no q2) rfl (by kernel_rfl) (fun _ _ _ h => h) (.inl ⟨by rfl, fun w hw => by have hc := hw.2.cell (o := 2) (u := .slice a2 no q2) (by rw [← Hv2.out]; rfl); clear hw; go_simp⟩) (InvG.mk trivial H20d.out.blk) ?_
   refine fSxOneA17_65 ?_
   refine wpAnyG_take0 (i := 10) (v := .int .i64 no) rfl (by kernel_rfl) (fun _ _ _ h => h) (.inl ⟨by rfl, fun w hw => by go_simp⟩) (InvG.mk trivial H20d.out.blk) ?_
   refine fSxOneA17_65 ?_
   refine wpAnyG_ready (rs := [11]) (by kernel_rfl) (by simp) ?_
   refine AllReadyG.plain rfl rfl (fun K hK => ?_) AllReadyG.nil
   go_simp
   refine HFd.out.mono ?_
   rintro e w21 ⟨rfl, hp21, hk21⟩
   have H21 := Yq (H20d.out.call hp21 hk21 (Hfg.out.mono (by omega)))
   have Hfit : Hid (Sx.Fit ts (m3.fs.length + 1) s4) := Yq (H20d.out.fit.f1.push Hnone.out (by obtain ⟨_, _, _, _, h3⟩ := H20d.out.par; exact h3) Hfg.out)
   clear hp21 hk21
   refine hK.out _ _ (InvG.mk trivial H21.out.blk) (fun _ => ?_)
   clear hK
   refine fSxOneA17_65 ?_
   refine wpAnyG_ready (rs := [12]) (by kernel_rfl) (by simp) ?_
   refine AllReadyG.plain rfl rfl (fun K hK => ?_) AllReadyG.nil
   refine wp_buildSlice1 41 47 _ rfl (fC y) (.agg (fC y).toArray) (by go_simp) Tryz.underlying41 info2F (show 0 < 10 by decide) (show 10 ≤ 1000 by decide) rfl ?_
   refine hK.out _ _ (InvG.mk trivial ((H21.out.below ((Below.refl _ _).alloc (Nat.le_refl _) _)).blk)) (fun _ => ?_)
   clear hK
   refine fSxOneA17_65 ?_
   refine wpAnyG_ready (rs := [13]) (by kernel_rfl) (by simp) ?_
   refine AllReadyG.plain rfl rfl (fun K hK => ?_) AllReadyG.nil
   refine wp_append_own1 T_F _ _ rfl (fC y) (by go_simp) H21.out.own1 (by go_simp) rfl (one_fC y) (by have h1 := H21.out.fit.f1.2; have h2 := Hsm.out.few; omega) H21.out.lts.2.2 ?_
   intro u9 w28 ho8 hg8 hat8 hone8
   have HB8 : Blk w28 gm m3.cells := H21.out.blk8 (r := m3.r1) (by simp [MV.rows]) hg8
   refine hK.out _ _ (InvG.mk trivial HB8) (fun _ => ?_)
   clear hK
   refine fSxOneA17_65 ?_
   refine wpAnyG_take0 (i := 14) (v := .pointer (some ⟨gm, 0, none⟩)) rfl (by kernel_rfl) (fun _ _ _ h => h) (.inl ⟨by rfl, fun w hw => by go_simp⟩) (InvG.mk trivial HB8) ?_
   refine fSxOneA17_65 ?_
   refine wpAnyG_take0 (i := 15) (v := .pointer (some ⟨gm, 1, none⟩)) rfl (by kernel_rfl) (fun _ _ _ h => h) (.inl ⟨by rfl, fun w hw => by go_simp⟩) (InvG.mk trivial HB8) ?_
   refine fSxOneA17_65 ?_
   refine wpAnyG_ready (rs := [16]) (by kernel_rfl) (by simp) ?_
   refine AllReadyG.plain rfl rfl (fun K hK => ?_) AllReadyG.nil
   refine wp_store_lay 41 _ _ rfl gm 1 u9 [u9] m3.cells (by go_simp) (by go_simp) (one_cells hone8) HB8 info_slF (show 1 + 1 ≤ 9 by decide) (one1 hone8) ?_
   intro w29 hB9 hg9 hs9
   have H29p := Yq (H21.out.push1 Hfit.out ho8 hg8 hat8 hB9 hg9)
   clear ho8 hg8 hat8 hone8 HB8 hB9 hg9 hs9
   refine hK.out _ _ (InvG.past trivial (by kernel_rfl)) (fun _ => ?_)
   clear hK
   refine fSxOneA17_65 ?_
   refine wpAnyG_done (by kernel_rfl) ?_ _
   go_wp2_with fail
   go_roundg n
   case measure => omega
   case rel =>
    refine ⟨{ m3 with v1 := u9, fs := m3.fs ++ [y] }, s4, H29p, Yq ?_, Yq HSb.out, Yq (fun he3 => ?_)⟩
    ·exact HO2.out
    ·have h1 := (Hfg.out he3).2
     have h2 := Hfuel.out
     omega
end Go.Proofs.YtpcfdngnmigkfaaGreatDoor
