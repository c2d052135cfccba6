/- Package syntax, walked: a part of a message. -/
import Derived.Test.YtpcfdngnmigkfaaGreatDoorSxRes
set_option linter.unusedVariables false
set_option linter.unusedSimpArgs false
namespace Go.Proofs.YtpcfdngnmigkfaaGreatDoor
open Go.RowKit
theorem fSxPartA12_102 {P : Program} {M : Region.Mode} {O : Array Oper} {Q : Exit → Act → World → Prop} {Y Z : World → Prop} {f F : Nat} {a b c e g i j k l m n o : Bool} {p q r s t u v x y z a0 a1 a2 a3 a4 a5 a6 a7 a8 a9 aA aB aC aD aE aF aG aH aI aJ aK aL aM aN aO aP aQ aR aS aT aU aV aW aX aY aZ b0 b1 b2 b3 b4 b5 b6 b7 b8 b9 bA bB bC bD bE bF bG bH bI bJ bK bL bM bN bO bP bQ bR bS bT bU bV bW bX bY bZ c0 c1 c2 c3 c4 c5 c6 c7 c8 c9 cA cB cC cD cE cF cG cH cI cJ : Value} {d} {w : World} (h : wpAnyG P M O Q Y Z f F #[a,b,c,e,g,i,j,k,l,m,n,o] ⟨#[p,q,r,s,t,u,v,x,y,z,a0,a1,a2,a3,a4,a5,a6,a7,a8,a9,aA,aB,aC,aD,aE,aF,aG,aH,aI,aJ,aK,aL,aM,aN,aO,aP,aQ,aR,aS,aT,aU,aV,aW,aX,aY,aZ,b0,b1,b2,b3,b4,b5,b6,b7,b8,b9,bA,bB,bC,bD,bE,bF,bG,bH,bI,bJ,bK,bL,bM,bN,bO,bP,bQ,bR,bS,bT,bU,bV,bW,bX,bY,bZ,c0,c1,c2,c3,c4,c5,c6,c7,c8,c9,cA,cB,cC,cD,cE,cF,cG,cH,cI,cJ],d⟩ w) : wpAnyG P M O Q Y Z f F #[a,b,c,e,g,i,j,k,l,m,n,o] ⟨#[p,q,r,s,t,u,v,x,y,z,a0,a1,a2,a3,a4,a5,a6,a7,a8,a9,aA,aB,aC,aD,aE,aF,aG,aH,aI,aJ,aK,aL,aM,aN,aO,aP,aQ,aR,aS,aT,aU,aV,aW,aX,aY,aZ,b0,b1,b2,b3,b4,b5,b6,b7,b8,b9,bA,bB,bC,bD,bE,bF,bG,bH,bI,bJ,bK,bL,bM,bN,bO,bP,bQ,bR,bS,bT,bU,bV,bW,bX,bY,bZ,c0,c1,c2,c3,c4,c5,c6,c7,c8,c9,cA,cB,cC,cD,cE,cF,cG,cH,cI,cJ],d⟩ w := h
theorem fSxPartA16_102 {P : Program} {M : Region.Mode} {O : Array Oper} {Q : Exit → Act → World → Prop} {Y Z : World → Prop} {f F : Nat} {a b c e g i j k l m n o p q r s : Bool} {t u v x y z a0 a1 a2 a3 a4 a5 a6 a7 a8 a9 aA aB aC aD aE aF aG aH aI aJ aK aL aM aN aO aP aQ aR aS aT aU aV aW aX aY aZ b0 b1 b2 b3 b4 b5 b6 b7 b8 b9 bA bB bC bD bE bF bG bH bI bJ bK bL bM bN bO bP bQ bR bS bT bU bV bW bX bY bZ c0 c1 c2 c3 c4 c5 c6 c7 c8 c9 cA cB cC cD cE cF cG cH cI cJ cK cL cM cN : Value} {d} {w : World} (h : wpAnyG P M O Q Y Z f F #[a,b,c,e,g,i,j,k,l,m,n,o,p,q,r,s] ⟨#[t,u,v,x,y,z,a0,a1,a2,a3,a4,a5,a6,a7,a8,a9,aA,aB,aC,aD,aE,aF,aG,aH,aI,aJ,aK,aL,aM,aN,aO,aP,aQ,aR,aS,aT,aU,aV,aW,aX,aY,aZ,b0,b1,b2,b3,b4,b5,b6,b7,b8,b9,bA,bB,bC,bD,bE,bF,bG,bH,bI,bJ,bK,bL,bM,bN,bO,bP,bQ,bR,bS,bT,bU,bV,bW,bX,bY,bZ,c0,c1,c2,c3,c4,c5,c6,c7,c8,c9,cA,cB,cC,cD,cE,cF,cG,cH,cI,cJ,cK,cL,cM,cN],d⟩ w) : wpAnyG P M O Q Y Z f F #[a,b,c,e,g,i,j,k,l,m,n,o,p,q,r,s] ⟨#[t,u,v,x,y,z,a0,a1,a2,a3,a4,a5,a6,a7,a8,a9,aA,aB,aC,aD,aE,aF,aG,aH,aI,aJ,aK,aL,aM,aN,aO,aP,aQ,aR,aS,aT,aU,aV,aW,aX,aY,aZ,b0,b1,b2,b3,b4,b5,b6,b7,b8,b9,bA,bB,bC,bD,bE,bF,bG,bH,bI,bJ,bK,bL,bM,bN,bO,bP,bQ,bR,bS,bT,bU,bV,bW,bX,bY,bZ,c0,c1,c2,c3,c4,c5,c6,c7,c8,c9,cA,cB,cC,cD,cE,cF,cG,cH,cI,cJ,cK,cL,cM,cN],d⟩ w := h
def MsgPost (A : Nat → Addr) (p : Nat) (v : Value) (ts : List Lx.Tok) (w : World) (r : Sx.Msg × Sx.St) (e : Ending) (w' : World) : Prop :=
 ∃ cs, e = .returned (.agg cs.toArray) ∧ MsgR (fragU w' w.heap.size []) r.1 cs ∧ Par A p v ts r.2 w' ∧ Kept [p] w w'
def MsgAtN (A : Nat → Addr) (p : Nat) (v : Value) (ts : List Lx.Tok) (n : Nat) : Prop :=
 ∀ (deep : Nat) (s : Sx.St) (w : World), deep ≤ 8 → Env A p v ts w → Par A p v ts s w → (s.err = none → ts.length + 1 ≤ s.pos + n) →
  Calls Tryz.prog 26 #[.pointer (some ⟨p, 0, none⟩), .int .i64 deep] w (MsgPost A p v ts w (Sx.messageBy ts (Sx.parts ts n) deep s))
theorem grown_then {w a b : World} {X : Option Nat} {g : Nat} (h : w.grownBy a X) (k : a.grownBy b (some g)) (hg : X = some g ∨ w.heap.size ≤ g) : w.grownBy b X :=
 ⟨k.os.trans h.os, k.tape.trans h.tape, k.output.trans h.output, Nat.le_trans h.size k.size, fun i hi hne => (k.block i (Nat.lt_of_lt_of_le hi h.size) (fun e => by
  cases e
  rcases hg with h1 | h1
  ·exact hne h1.symm
  ·omega)).trans (h.block i hi hne)⟩
theorem zMs_ones : ∀ u ∈ zMs, u.oneCell' = true := by decide
theorem patch_last {p q cs : List Value} {n : Nat} (hp : p.length = n) (hq : q.length = cs.length) : patch (p ++ q) n cs = p ++ cs := by
 have h := patch_at (p := p) (q := q) (r := []) (vs := cs) (o := n) hp hq
 simpa using h
theorem sizeMsS (w : World) : (Go.sizeOf (Tryz.prog.elem 23)).run Tryz.prog w = .ok 9 w := by kernel_rfl
set_option maxHeartbeats 16000000 in
set_option maxRecDepth 100000 in
theorem part_any (A : Nat → Addr) (p B gm n deep : Nat) (v : Value) (ts : List Lx.Tok) (s : Sx.St) (m : MV) (w w0 : World) (hM : MsgAtN A p v ts n) (hd : deep < 8) (hs : s.err = none) (hF : ts.length + 1 ≤ s.pos + n) (h : MAt A p B gm v ts w0 s m w) :
  Calls Tryz.prog 54 #[.pointer (some ⟨p, 0, none⟩), .pointer (some ⟨gm, 0, none⟩), .int .i64 deep] w (MsgPartPost A p B gm v ts w0 (Sx.part ts (Sx.parts ts n) deep m.msg s)) := by
 have H0 := Yq h; have Hsm := Yq h.env.small; have Hs := Yq hs; have HFu := Yq hF; have HMs := Yq hM
 obtain ⟨R, hR⟩ : ∃ R, R = Sx.part ts (Sx.parts ts n) deep m.msg s := ⟨_, rfl⟩
 rw [← hR]
 unfold Sx.part at hR
 have HR := Yq hR
 have Hpl : Hid (s.pos ≤ ts.length) := Yq (by obtain ⟨_, _, _, _, h3⟩ := h.par; exact h3)
 have hdI : (deep : Int) ≤ 7 := by omega
 have hwr : IntKind.i64.wrap ((deep : Int) + 1) = (deep : Int) + 1 := IntWalk.i64_in _ (by omega)
 have Hd := Yq hd
 clear hR h hs hF hM hd
 go_enter Tryz.func54, Tryz.ntmps54
 have HW1 := Yq (pword_any A p v ts s Sx.bMessage w H0.out.par)
 unfold Sx.takes at HW1
 cases hs : Sx.sees ts 1 Sx.bMessage s
 ·rw [hs] at HW1
  simp only [↓reduceIte, Bool.false_eq_true] at HW1
  replace HR := HR.out
  rw [hs] at HR
  simp only [↓reduceIte, Bool.false_eq_true] at HR
  replace HR := Yq HR
  clear hs
  go_wp2_with fail
  refine HW1.out.mono ?_
  rintro e w1 ⟨rfl, hp1, hk1⟩
  have H1 := Yq (H0.out.call hp1 hk1 (Sx.GoesN.refl _))
  clear hp1 hk1
  have HW2 := Yq (pword_any A p v ts s Sx.bEnum w1 H1.out.par)
  unfold Sx.takes at HW2
  cases hs : Sx.sees ts 1 Sx.bEnum s
  ·rw [hs] at HW2
   simp only [↓reduceIte, Bool.false_eq_true] at HW2
   replace HR := HR.out
   rw [hs] at HR
   simp only [↓reduceIte, Bool.false_eq_true] at HR
   replace HR := Yq HR
   clear hs
   go_wp2_with fail
   refine HW2.out.mono ?_
   rintro e w2 ⟨rfl, hp2, hk2⟩
   have H2 := Yq (H1.out.call hp2 hk2 (Sx.GoesN.refl _))
   clear hp2 hk2
   have HW3 := Yq (pword_any A p v ts s Sx.bOneof w2 H2.out.par)
   unfold Sx.takes at HW3
   cases hs : Sx.sees ts 1 Sx.bOneof s
   ·rw [hs] at HW3
    simp only [↓reduceIte, Bool.false_eq_true] at HW3
    replace HR := HR.out
    rw [hs] at HR
    simp only [↓reduceIte, Bool.false_eq_true] at HR
    replace HR := Yq HR
    clear hs
    go_wp2_with fail
    refine HW3.out.mono ?_
    rintro e w3 ⟨rfl, hp3, hk3⟩
    have H3 := Yq (H2.out.call hp3 hk3 (Sx.GoesN.refl _))
    clear hp3 hk3
    have HW4 := Yq (pword_any A p v ts s Sx.bReserved w3 H3.out.par)
    unfold Sx.takes at HW4
    cases hs : Sx.sees ts 1 Sx.bReserved s
    ·rw [hs] at HW4
     simp only [↓reduceIte, Bool.false_eq_true] at HW4
     replace HR := HR.out
     rw [hs] at HR
     simp only [↓reduceIte, Bool.false_eq_true] at HR
     replace HR := Yq HR
     clear hs
     go_wp2_with fail
     refine HW4.out.mono ?_
     rintro e w4 ⟨rfl, hp4, hk4⟩
     have H4 := Yq (H3.out.call hp4 hk4 (Sx.GoesN.refl _))
     clear hp4 hk4
     have HW5 := Yq (pword_any A p v ts s Sx.bRepeated w4 H4.out.par)
     unfold Sx.takes at HW5
     cases hs : Sx.sees ts 1 Sx.bRepeated s
     ·rw [hs] at HW5
      simp only [↓reduceIte, Bool.false_eq_true] at HW5
      replace HR := HR.out
      rw [hs] at HR
      simp only [↓reduceIte, Bool.false_eq_true] at HR
      replace HR := Yq HR
      clear hs
      go_wp2_with fail
      refine HW5.out.mono ?_
      rintro e w5 ⟨rfl, hp5, hk5⟩
      have H5 := Yq (H4.out.call hp5 hk5 (Sx.GoesN.refl _))
      clear hp5 hk5
      have HW6 := Yq (pword_any A p v ts s Sx.bOptional w5 H5.out.par)
      unfold Sx.takes at HW6
      cases hs : Sx.sees ts 1 Sx.bOptional s
      ·rw [hs] at HW6
       simp only [↓reduceIte, Bool.false_eq_true] at HW6
       replace HR := HR.out
       rw [hs] at HR
       simp only [↓reduceIte, Bool.false_eq_true] at HR
       replace HR := Yq HR
       clear hs
       go_wp2_with fail
       refine HW6.out.mono ?_
       rintro e w6 ⟨rfl, hp6, hk6⟩
       have H6 := Yq (H5.out.call hp6 hk6 (Sx.GoesN.refl _))
       clear hp6 hk6
       have HMp := Yq (mapping_any A p v ts s w6 H6.out.env H6.out.par)
       cases hb : (Sx.sees ts 1 Sx.bMap s && Sx.sees ts 4 [60] s.next)
       ·rw [hb] at HMp
        have hb2 : ¬ (Sx.sees ts 1 Sx.bMap s = true ∧ Sx.sees ts 4 [60] s.next = true) := fun e => by rw [e.1, e.2] at hb; cases hb
        simp only [↓reduceIte, Bool.false_eq_true] at HMp
        replace HR := HR.out
        rw [if_neg hb2] at HR
        replace HR := Yq HR
        clear hb hb2
        go_wp2_with fail
        refine HMp.out.mono ?_
        rintro e w7 ⟨rfl, hp7, hk7⟩
        have H7 := Yq (H6.out.call hp7 hk7 (Sx.GoesN.refl _))
        clear hp7 hk7
        have H30 := Yq (H7.out.below (Below.refl _ _).drew)
        have Hfg := Yq (Sx.field_go ts 1 0 s)
        have HFd := Yq (field_any A p 1 0 v ts s w7.drew H30.out.env H30.out.par)
        have Hno : Hid ((s).err = none) := Yq Hs.out
        have Hpl2 : Hid ((s).pos ≤ ts.length) := Yq (by obtain ⟨_, _, _, _, h3⟩ := H30.out.par; exact h3)
        generalize Sx.field ts 1 0 s = X at *
        obtain ⟨y, s4⟩ := X
        simp only at Hfg
        unfold FldPost at HFd
        simp only at HFd
        go_wp2_with fail
        refine wp_region_G 11 (fun _ => True) (fun w' => Blk w' gm m.cells) (by kernel_rfl) trivial H30.out.blk (fun _ => ?_)
        refine wpAnyG_take0 (i := 0) (v := .pointer (some ⟨gm, 0, none⟩)) rfl (by kernel_rfl) (fun _ _ _ h => h) (.inl ⟨by rfl, fun w hw => by go_simp⟩) (InvG.mk trivial H30.out.blk) ?_
        refine fSxPartA12_102 ?_
        refine wpAnyG_take0 (i := 1) (v := .pointer (some ⟨gm, 0, none⟩)) rfl (by kernel_rfl) (fun _ _ _ h => h) (.inl ⟨by rfl, fun w hw => by go_simp⟩) (InvG.mk trivial H30.out.blk) ?_
        refine fSxPartA12_102 ?_
        refine wpAnyG_take0 (i := 2) (v := .pointer (some ⟨gm, 0, none⟩)) rfl (by kernel_rfl) (fun _ _ _ h => h) (.inl ⟨by rfl, fun w hw => by go_simp⟩) (InvG.mk trivial H30.out.blk) ?_
        refine fSxPartA12_102 ?_
        refine wpAnyG_take0 (i := 3) (v := .pointer (some ⟨gm, 1, none⟩)) rfl (by kernel_rfl) (fun _ _ _ h => h) (.inl ⟨by rfl, fun w hw => by go_simp⟩) (InvG.mk trivial H30.out.blk) ?_
        refine fSxPartA12_102 ?_
        refine wpAnyG_take (i := 4) (v := m.v1) rfl (by kernel_rfl) (fun _ _ _ h => h) (.inl ⟨by rfl, fun w hw => by have hc := hw.2.cell (o := 1) (u := m.v1) rfl; clear hw; go_simp⟩) (InvG.mk trivial H30.out.blk) ?_
        refine fSxPartA12_102 ?_
        refine wpAnyG_take0 (i := 5) (v := .pointer (some ⟨p, 0, none⟩)) rfl (by kernel_rfl) (fun _ _ _ h => h) (.inl ⟨by rfl, fun w hw => by go_simp⟩) (InvG.mk trivial H30.out.blk) ?_
        refine fSxPartA12_102 ?_
        refine wpAnyG_ready (rs := [6]) (by kernel_rfl) (by simp) ?_
        refine AllReadyG.plain rfl rfl (fun K hK => ?_) AllReadyG.nil
        go_simp
        refine HFd.out.mono ?_
        rintro e w31 ⟨rfl, hp31, hk31⟩
        have H31 := Yq (H30.out.call hp31 hk31 (Hfg.out.mono (by omega)))
        have Hfit : Hid (Sx.Fit ts (m.fs.length + 1) s4) := Yq (H30.out.fit.f1.push Hno.out Hpl2.out Hfg.out)
        clear hp31 hk31
        refine hK.out _ _ (InvG.mk trivial H31.out.blk) (fun _ => ?_)
        clear hK
        refine fSxPartA12_102 ?_
        refine wpAnyG_ready (rs := [7]) (by kernel_rfl) (by simp) ?_
        refine AllReadyG.plain rfl rfl (fun K hK => ?_) AllReadyG.nil
        refine wp_buildSlice1 41 47 _ rfl (fC y) (.agg (fC y).toArray) (by go_simp) Tryz.underlying41 info2F (show 0 < 10 by decide) (show 10 ≤ 1000 by decide) rfl ?_
        refine hK.out _ _ (InvG.mk trivial ((H31.out.below ((Below.refl _ _).alloc (Nat.le_refl _) _)).blk)) (fun _ => ?_)
        clear hK
        refine fSxPartA12_102 ?_
        refine wpAnyG_ready (rs := [8]) (by kernel_rfl) (by simp) ?_
        refine AllReadyG.plain rfl rfl (fun K hK => ?_) AllReadyG.nil
        refine wp_append_own1 T_F _ _ rfl (fC y) (by go_simp) H31.out.own1 (by go_simp) rfl (one_fC y) (by have h1 := H31.out.fit.f1.2; have h2 := Hsm.out.few; omega) H31.out.lts.2.2 ?_
        intro u9 w38 ho8 hg8 hat8 hone8
        have HB8 : Blk w38 gm m.cells := H31.out.blk8 (r := m.r1) (by simp [MV.rows]) hg8
        refine hK.out _ _ (InvG.mk trivial HB8) (fun _ => ?_)
        clear hK
        refine fSxPartA12_102 ?_
        refine wpAnyG_take0 (i := 9) (v := .pointer (some ⟨gm, 0, none⟩)) rfl (by kernel_rfl) (fun _ _ _ h => h) (.inl ⟨by rfl, fun w hw => by go_simp⟩) (InvG.mk trivial HB8) ?_
        refine fSxPartA12_102 ?_
        refine wpAnyG_take0 (i := 10) (v := .pointer (some ⟨gm, 1, none⟩)) rfl (by kernel_rfl) (fun _ _ _ h => h) (.inl ⟨by rfl, fun w hw => by go_simp⟩) (InvG.mk trivial HB8) ?_
        refine fSxPartA12_102 ?_
        refine wpAnyG_ready (rs := [11]) (by kernel_rfl) (by simp) ?_
        refine AllReadyG.plain rfl rfl (fun K hK => ?_) AllReadyG.nil
        refine wp_store_lay 41 _ _ rfl gm 1 u9 [u9] m.cells (by go_simp) (by go_simp) (one_cells hone8) HB8 info_slF (show 1 + 1 ≤ 9 by decide) (one1 hone8) ?_
        intro w39 hB9 hg9 hs9
        have H39p := Yq (H31.out.push1 Hfit.out ho8 hg8 hat8 hB9 hg9)
        clear ho8 hg8 hat8 hone8 HB8 hB9 hg9 hs9
        refine hK.out _ _ (InvG.past trivial (by kernel_rfl)) (fun _ => ?_)
        clear hK
        refine fSxPartA12_102 ?_
        refine wpAnyG_done (by kernel_rfl) ?_ _
        go_wp2_with fail
        go_end0
        rw [HR.out]
        exact ⟨rfl, { m with v1 := u9, fs := m.fs ++ [y] }, rfl, H39p.out⟩
       ·rw [hb] at HMp
        have hb2 : Sx.sees ts 1 Sx.bMap s = true ∧ Sx.sees ts 4 [60] s.next = true := by simpa using hb
        simp only [↓reduceIte, Bool.false_eq_true] at HMp
        replace HR := HR.out
        rw [if_pos hb2] at HR
        replace HR := Yq HR
        clear hb hb2
        go_wp2_with fail
        refine HMp.out.mono ?_
        rintro e w7 ⟨rfl, hp7, hk7⟩
        have H7 := Yq (H6.out.call hp7 hk7 ((Sx.GoesN.next s).mono (by omega)))
        clear hp7 hk7
        have H30 := Yq (H7.out.below (Below.refl _ _).drew)
        have Hfg := Yq (Sx.mapped_go ts s.next)
        have HFd := Yq (mapped_any A p v ts s.next w7.drew H30.out.env H30.out.par)
        have Hno : Hid ((s.next).err = none) := Yq Hs.out
        have Hpl2 : Hid ((s.next).pos ≤ ts.length) := Yq (by obtain ⟨_, _, _, _, h3⟩ := H30.out.par; exact h3)
        generalize Sx.mapped ts s.next = X at *
        obtain ⟨y, s4⟩ := X
        simp only at Hfg
        unfold FldPost at HFd
        simp only at HFd
        go_wp2_with fail
        refine wp_region_G 11 (fun _ => True) (fun w' => Blk w' gm m.cells) (by kernel_rfl) trivial H30.out.blk (fun _ => ?_)
        refine wpAnyG_take0 (i := 0) (v := .pointer (some ⟨gm, 0, none⟩)) rfl (by kernel_rfl) (fun _ _ _ h => h) (.inl ⟨by rfl, fun w hw => by go_simp⟩) (InvG.mk trivial H30.out.blk) ?_
        refine fSxPartA12_102 ?_
        refine wpAnyG_take0 (i := 1) (v := .pointer (some ⟨gm, 0, none⟩)) rfl (by kernel_rfl) (fun _ _ _ h => h) (.inl ⟨by rfl, fun w hw => by go_simp⟩) (InvG.mk trivial H30.out.blk) ?_
        refine fSxPartA12_102 ?_
        refine wpAnyG_take0 (i := 2) (v := .pointer (some ⟨gm, 0, none⟩)) rfl (by kernel_rfl) (fun _ _ _ h => h) (.inl ⟨by rfl, fun w hw => by go_simp⟩) (InvG.mk trivial H30.out.blk) ?_
        refine fSxPartA12_102 ?_
        refine wpAnyG_take0 (i := 3) (v := .pointer (some ⟨gm, 1, none⟩)) rfl (by kernel_rfl) (fun _ _ _ h => h) (.inl ⟨by rfl, fun w hw => by go_simp⟩) (InvG.mk trivial H30.out.blk) ?_
        refine fSxPartA12_102 ?_
        refine wpAnyG_take (i := 4) (v := m.v1) rfl (by kernel_rfl) (fun _ _ _ h => h) (.inl ⟨by rfl, fun w hw => by have hc := hw.2.cell (o := 1) (u := m.v1) rfl; clear hw; go_simp⟩) (InvG.mk trivial H30.out.blk) ?_
        refine fSxPartA12_102 ?_
        refine wpAnyG_take0 (i := 5) (v := .pointer (some ⟨p, 0, none⟩)) rfl (by kernel_rfl) (fun _ _ _ h => h) (.inl ⟨by rfl, fun w hw => by go_simp⟩) (InvG.mk trivial H30.out.blk) ?_
        refine fSxPartA12_102 ?_
        refine wpAnyG_ready (rs := [6]) (by kernel_rfl) (by simp) ?_
        refine AllReadyG.plain rfl rfl (fun K hK => ?_) AllReadyG.nil
        go_simp
        refine HFd.out.mono ?_
        rintro e w31 ⟨rfl, hp31, hk31⟩
        have H31 := Yq (H30.out.call hp31 hk31 (Hfg.out.mono (by omega)))
        have Hfit : Hid (Sx.Fit ts (m.fs.length + 1) s4) := Yq (H30.out.fit.f1.push Hno.out Hpl2.out Hfg.out)
        clear hp31 hk31
        refine hK.out _ _ (InvG.mk trivial H31.out.blk) (fun _ => ?_)
        clear hK
        refine fSxPartA12_102 ?_
        refine wpAnyG_ready (rs := [7]) (by kernel_rfl) (by simp) ?_
        refine AllReadyG.plain rfl rfl (fun K hK => ?_) AllReadyG.nil
        refine wp_buildSlice1 41 47 _ rfl (fC y) (.agg (fC y).toArray) (by go_simp) Tryz.underlying41 info2F (show 0 < 10 by decide) (show 10 ≤ 1000 by decide) rfl ?_
        refine hK.out _ _ (InvG.mk trivial ((H31.out.below ((Below.refl _ _).alloc (Nat.le_refl _) _)).blk)) (fun _ => ?_)
        clear hK
        refine fSxPartA12_102 ?_
        refine wpAnyG_ready (rs := [8]) (by kernel_rfl) (by simp) ?_
        refine AllReadyG.plain rfl rfl (fun K hK => ?_) AllReadyG.nil
        refine wp_append_own1 T_F _ _ rfl (fC y) (by go_simp) H31.out.own1 (by go_simp) rfl (one_fC y) (by have h1 := H31.out.fit.f1.2; have h2 := Hsm.out.few; omega) H31.out.lts.2.2 ?_
        intro u9 w38 ho8 hg8 hat8 hone8
        have HB8 : Blk w38 gm m.cells := H31.out.blk8 (r := m.r1) (by simp [MV.rows]) hg8
        refine hK.out _ _ (InvG.mk trivial HB8) (fun _ => ?_)
        clear hK
        refine fSxPartA12_102 ?_
        refine wpAnyG_take0 (i := 9) (v := .pointer (some ⟨gm, 0, none⟩)) rfl (by kernel_rfl) (fun _ _ _ h => h) (.inl ⟨by rfl, fun w hw => by go_simp⟩) (InvG.mk trivial HB8) ?_
        refine fSxPartA12_102 ?_
        refine wpAnyG_take0 (i := 10) (v := .pointer (some ⟨gm, 1, none⟩)) rfl (by kernel_rfl) (fun _ _ _ h => h) (.inl ⟨by rfl, fun w hw => by go_simp⟩) (InvG.mk trivial HB8) ?_
        refine fSxPartA12_102 ?_
        refine wpAnyG_ready (rs := [11]) (by kernel_rfl) (by simp) ?_
        refine AllReadyG.plain rfl rfl (fun K hK => ?_) AllReadyG.nil
        refine wp_store_lay 41 _ _ rfl gm 1 u9 [u9] m.cells (by go_simp) (by go_simp) (one_cells hone8) HB8 info_slF (show 1 + 1 ≤ 9 by decide) (one1 hone8) ?_
        intro w39 hB9 hg9 hs9
        have H39p := Yq (H31.out.push1 Hfit.out ho8 hg8 hat8 hB9 hg9)
        clear ho8 hg8 hat8 hone8 HB8 hB9 hg9 hs9
        refine hK.out _ _ (InvG.past trivial (by kernel_rfl)) (fun _ => ?_)
        clear hK
        refine fSxPartA12_102 ?_
        refine wpAnyG_done (by kernel_rfl) ?_ _
        go_wp2_with fail
        go_end0
        rw [HR.out]
        exact ⟨rfl, { m with v1 := u9, fs := m.fs ++ [y] }, rfl, H39p.out⟩
      ·rw [hs] at HW6
       simp only [↓reduceIte, Bool.false_eq_true] at HW6
       replace HR := HR.out
       rw [hs] at HR
       simp only [↓reduceIte, Bool.false_eq_true] at HR
       replace HR := Yq HR
       clear hs
       go_wp2_with fail
       refine HW6.out.mono ?_
       rintro e w6 ⟨rfl, hp6, hk6⟩
       have H6 := Yq (H5.out.call hp6 hk6 ((Sx.GoesN.next s).mono (by omega)))
       clear hp6 hk6
       have H30 := Yq (H6.out.below (Below.refl _ _).drew)
       have Hfg := Yq (Sx.field_go ts 2 0 s.next)
       have HFd := Yq (field_any A p 2 0 v ts s.next w6.drew H30.out.env H30.out.par)
       have Hno : Hid ((s.next).err = none) := Yq Hs.out
       have Hpl2 : Hid ((s.next).pos ≤ ts.length) := Yq (by obtain ⟨_, _, _, _, h3⟩ := H30.out.par; exact h3)
       generalize Sx.field ts 2 0 s.next = X at *
       obtain ⟨y, s4⟩ := X
       simp only at Hfg
       unfold FldPost at HFd
       simp only at HFd
       go_wp2_with fail
       refine wp_region_G 11 (fun _ => True) (fun w' => Blk w' gm m.cells) (by kernel_rfl) trivial H30.out.blk (fun _ => ?_)
       refine wpAnyG_take0 (i := 0) (v := .pointer (some ⟨gm, 0, none⟩)) rfl (by kernel_rfl) (fun _ _ _ h => h) (.inl ⟨by rfl, fun w hw => by go_simp⟩) (InvG.mk trivial H30.out.blk) ?_
       refine fSxPartA12_102 ?_
       refine wpAnyG_take0 (i := 1) (v := .pointer (some ⟨gm, 0, none⟩)) rfl (by kernel_rfl) (fun _ _ _ h => h) (.inl ⟨by rfl, fun w hw => by go_simp⟩) (InvG.mk trivial H30.out.blk) ?_
       refine fSxPartA12_102 ?_
       refine wpAnyG_take0 (i := 2) (v := .pointer (some ⟨gm, 0, none⟩)) rfl (by kernel_rfl) (fun _ _ _ h => h) (.inl ⟨by rfl, fun w hw => by go_simp⟩) (InvG.mk trivial H30.out.blk) ?_
       refine fSxPartA12_102 ?_
       refine wpAnyG_take0 (i := 3) (v := .pointer (some ⟨gm, 1, none⟩)) rfl (by kernel_rfl) (fun _ _ _ h => h) (.inl ⟨by rfl, fun w hw => by go_simp⟩) (InvG.mk trivial H30.out.blk) ?_
       refine fSxPartA12_102 ?_
       refine wpAnyG_take (i := 4) (v := m.v1) rfl (by kernel_rfl) (fun _ _ _ h => h) (.inl ⟨by rfl, fun w hw => by have hc := hw.2.cell (o := 1) (u := m.v1) rfl; clear hw; go_simp⟩) (InvG.mk trivial H30.out.blk) ?_
       refine fSxPartA12_102 ?_
       refine wpAnyG_take0 (i := 5) (v := .pointer (some ⟨p, 0, none⟩)) rfl (by kernel_rfl) (fun _ _ _ h => h) (.inl ⟨by rfl, fun w hw => by go_simp⟩) (InvG.mk trivial H30.out.blk) ?_
       refine fSxPartA12_102 ?_
       refine wpAnyG_ready (rs := [6]) (by kernel_rfl) (by simp) ?_
       refine AllReadyG.plain rfl rfl (fun K hK => ?_) AllReadyG.nil
       go_simp
       refine HFd.out.mono ?_
       rintro e w31 ⟨rfl, hp31, hk31⟩
       have H31 := Yq (H30.out.call hp31 hk31 (Hfg.out.mono (by omega)))
       have Hfit : Hid (Sx.Fit ts (m.fs.length + 1) s4) := Yq (H30.out.fit.f1.push Hno.out Hpl2.out Hfg.out)
       clear hp31 hk31
       refine hK.out _ _ (InvG.mk trivial H31.out.blk) (fun _ => ?_)
       clear hK
       refine fSxPartA12_102 ?_
       refine wpAnyG_ready (rs := [7]) (by kernel_rfl) (by simp) ?_
       refine AllReadyG.plain rfl rfl (fun K hK => ?_) AllReadyG.nil
       refine wp_buildSlice1 41 47 _ rfl (fC y) (.agg (fC y).toArray) (by go_simp) Tryz.underlying41 info2F (show 0 < 10 by decide) (show 10 ≤ 1000 by decide) rfl ?_
       refine hK.out _ _ (InvG.mk trivial ((H31.out.below ((Below.refl _ _).alloc (Nat.le_refl _) _)).blk)) (fun _ => ?_)
       clear hK
       refine fSxPartA12_102 ?_
       refine wpAnyG_ready (rs := [8]) (by kernel_rfl) (by simp) ?_
       refine AllReadyG.plain rfl rfl (fun K hK => ?_) AllReadyG.nil
       refine wp_append_own1 T_F _ _ rfl (fC y) (by go_simp) H31.out.own1 (by go_simp) rfl (one_fC y) (by have h1 := H31.out.fit.f1.2; have h2 := Hsm.out.few; omega) H31.out.lts.2.2 ?_
       intro u9 w38 ho8 hg8 hat8 hone8
       have HB8 : Blk w38 gm m.cells := H31.out.blk8 (r := m.r1) (by simp [MV.rows]) hg8
       refine hK.out _ _ (InvG.mk trivial HB8) (fun _ => ?_)
       clear hK
       refine fSxPartA12_102 ?_
       refine wpAnyG_take0 (i := 9) (v := .pointer (some ⟨gm, 0, none⟩)) rfl (by kernel_rfl) (fun _ _ _ h => h) (.inl ⟨by rfl, fun w hw => by go_simp⟩) (InvG.mk trivial HB8) ?_
       refine fSxPartA12_102 ?_
       refine wpAnyG_take0 (i := 10) (v := .pointer (some ⟨gm, 1, none⟩)) rfl (by kernel_rfl) (fun _ _ _ h => h) (.inl ⟨by rfl, fun w hw => by go_simp⟩) (InvG.mk trivial HB8) ?_
       refine fSxPartA12_102 ?_
       refine wpAnyG_ready (rs := [11]) (by kernel_rfl) (by simp) ?_
       refine AllReadyG.plain rfl rfl (fun K hK => ?_) AllReadyG.nil
       refine wp_store_lay 41 _ _ rfl gm 1 u9 [u9] m.cells (by go_simp) (by go_simp) (one_cells hone8) HB8 info_slF (show 1 + 1 ≤ 9 by decide) (one1 hone8) ?_
       intro w39 hB9 hg9 hs9
       have H39p := Yq (H31.out.push1 Hfit.out ho8 hg8 hat8 hB9 hg9)
       clear ho8 hg8 hat8 hone8 HB8 hB9 hg9 hs9
       refine hK.out _ _ (InvG.past trivial (by kernel_rfl)) (fun _ => ?_)
       clear hK
       refine fSxPartA12_102 ?_
       refine wpAnyG_done (by kernel_rfl) ?_ _
       go_wp2_with fail
       go_end0
       rw [HR.out]
       exact ⟨rfl, { m with v1 := u9, fs := m.fs ++ [y] }, rfl, H39p.out⟩
     ·rw [hs] at HW5
      simp only [↓reduceIte, Bool.false_eq_true] at HW5
      replace HR := HR.out
      rw [hs] at HR
      simp only [↓reduceIte, Bool.false_eq_true] at HR
      replace HR := Yq HR
      clear hs
      go_wp2_with fail
      refine HW5.out.mono ?_
      rintro e w5 ⟨rfl, hp5, hk5⟩
      have H5 := Yq (H4.out.call hp5 hk5 ((Sx.GoesN.next s).mono (by omega)))
      clear hp5 hk5
      have H30 := Yq (H5.out.below (Below.refl _ _).drew)
      have Hfg := Yq (Sx.field_go ts 3 0 s.next)
      have HFd := Yq (field_any A p 3 0 v ts s.next w5.drew H30.out.env H30.out.par)
      have Hno : Hid ((s.next).err = none) := Yq Hs.out
      have Hpl2 : Hid ((s.next).pos ≤ ts.length) := Yq (by obtain ⟨_, _, _, _, h3⟩ := H30.out.par; exact h3)
      generalize Sx.field ts 3 0 s.next = X at *
      obtain ⟨y, s4⟩ := X
      simp only at Hfg
      unfold FldPost at HFd
      simp only at HFd
      go_wp2_with fail
      refine wp_region_G 11 (fun _ => True) (fun w' => Blk w' gm m.cells) (by kernel_rfl) trivial H30.out.blk (fun _ => ?_)
      refine wpAnyG_take0 (i := 0) (v := .pointer (some ⟨gm, 0, none⟩)) rfl (by kernel_rfl) (fun _ _ _ h => h) (.inl ⟨by rfl, fun w hw => by go_simp⟩) (InvG.mk trivial H30.out.blk) ?_
      refine fSxPartA12_102 ?_
      refine wpAnyG_take0 (i := 1) (v := .pointer (some ⟨gm, 0, none⟩)) rfl (by kernel_rfl) (fun _ _ _ h => h) (.inl ⟨by rfl, fun w hw => by go_simp⟩) (InvG.mk trivial H30.out.blk) ?_
      refine fSxPartA12_102 ?_
      refine wpAnyG_take0 (i := 2) (v := .pointer (some ⟨gm, 0, none⟩)) rfl (by kernel_rfl) (fun _ _ _ h => h) (.inl ⟨by rfl, fun w hw => by go_simp⟩) (InvG.mk trivial H30.out.blk) ?_
      refine fSxPartA12_102 ?_
      refine wpAnyG_take0 (i := 3) (v := .pointer (some ⟨gm, 1, none⟩)) rfl (by kernel_rfl) (fun _ _ _ h => h) (.inl ⟨by rfl, fun w hw => by go_simp⟩) (InvG.mk trivial H30.out.blk) ?_
      refine fSxPartA12_102 ?_
      refine wpAnyG_take (i := 4) (v := m.v1) rfl (by kernel_rfl) (fun _ _ _ h => h) (.inl ⟨by rfl, fun w hw => by have hc := hw.2.cell (o := 1) (u := m.v1) rfl; clear hw; go_simp⟩) (InvG.mk trivial H30.out.blk) ?_
      refine fSxPartA12_102 ?_
      refine wpAnyG_take0 (i := 5) (v := .pointer (some ⟨p, 0, none⟩)) rfl (by kernel_rfl) (fun _ _ _ h => h) (.inl ⟨by rfl, fun w hw => by go_simp⟩) (InvG.mk trivial H30.out.blk) ?_
      refine fSxPartA12_102 ?_
      refine wpAnyG_ready (rs := [6]) (by kernel_rfl) (by simp) ?_
      refine AllReadyG.plain rfl rfl (fun K hK => ?_) AllReadyG.nil
      go_simp
      refine HFd.out.mono ?_
      rintro e w31 ⟨rfl, hp31, hk31⟩
      have H31 := Yq (H30.out.call hp31 hk31 (Hfg.out.mono (by omega)))
      have Hfit : Hid (Sx.Fit ts (m.fs.length + 1) s4) := Yq (H30.out.fit.f1.push Hno.out Hpl2.out Hfg.out)
      clear hp31 hk31
      refine hK.out _ _ (InvG.mk trivial H31.out.blk) (fun _ => ?_)
      clear hK
      refine fSxPartA12_102 ?_
      refine wpAnyG_ready (rs := [7]) (by kernel_rfl) (by simp) ?_
      refine AllReadyG.plain rfl rfl (fun K hK => ?_) AllReadyG.nil
      refine wp_buildSlice1 41 47 _ rfl (fC y) (.agg (fC y).toArray) (by go_simp) Tryz.underlying41 info2F (show 0 < 10 by decide) (show 10 ≤ 1000 by decide) rfl ?_
      refine hK.out _ _ (InvG.mk trivial ((H31.out.below ((Below.refl _ _).alloc (Nat.le_refl _) _)).blk)) (fun _ => ?_)
      clear hK
      refine fSxPartA12_102 ?_
      refine wpAnyG_ready (rs := [8]) (by kernel_rfl) (by simp) ?_
      refine AllReadyG.plain rfl rfl (fun K hK => ?_) AllReadyG.nil
      refine wp_append_own1 T_F _ _ rfl (fC y) (by go_simp) H31.out.own1 (by go_simp) rfl (one_fC y) (by have h1 := H31.out.fit.f1.2; have h2 := Hsm.out.few; omega) H31.out.lts.2.2 ?_
      intro u9 w38 ho8 hg8 hat8 hone8
      have HB8 : Blk w38 gm m.cells := H31.out.blk8 (r := m.r1) (by simp [MV.rows]) hg8
      refine hK.out _ _ (InvG.mk trivial HB8) (fun _ => ?_)
      clear hK
      refine fSxPartA12_102 ?_
      refine wpAnyG_take0 (i := 9) (v := .pointer (some ⟨gm, 0, none⟩)) rfl (by kernel_rfl) (fun _ _ _ h => h) (.inl ⟨by rfl, fun w hw => by go_simp⟩) (InvG.mk trivial HB8) ?_
      refine fSxPartA12_102 ?_
      refine wpAnyG_take0 (i := 10) (v := .pointer (some ⟨gm, 1, none⟩)) rfl (by kernel_rfl) (fun _ _ _ h => h) (.inl ⟨by rfl, fun w hw => by go_simp⟩) (InvG.mk trivial HB8) ?_
      refine fSxPartA12_102 ?_
      refine wpAnyG_ready (rs := [11]) (by kernel_rfl) (by simp) ?_
      refine AllReadyG.plain rfl rfl (fun K hK => ?_) AllReadyG.nil
      refine wp_store_lay 41 _ _ rfl gm 1 u9 [u9] m.cells (by go_simp) (by go_simp) (one_cells hone8) HB8 info_slF (show 1 + 1 ≤ 9 by decide) (one1 hone8) ?_
      intro w39 hB9 hg9 hs9
      have H39p := Yq (H31.out.push1 Hfit.out ho8 hg8 hat8 hB9 hg9)
      clear ho8 hg8 hat8 hone8 HB8 hB9 hg9 hs9
      refine hK.out _ _ (InvG.past trivial (by kernel_rfl)) (fun _ => ?_)
      clear hK
      refine fSxPartA12_102 ?_
      refine wpAnyG_done (by kernel_rfl) ?_ _
      go_wp2_with fail
      go_end0
      rw [HR.out]
      exact ⟨rfl, { m with v1 := u9, fs := m.fs ++ [y] }, rfl, H39p.out⟩
    ·rw [hs] at HW4
     simp only [↓reduceIte, Bool.false_eq_true] at HW4
     replace HR := HR.out
     rw [hs] at HR
     simp only [↓reduceIte, Bool.false_eq_true] at HR
     replace HR := Yq HR
     clear hs
     go_wp2_with fail
     refine HW4.out.mono ?_
     rintro e w4 ⟨rfl, hp4, hk4⟩
     have H4 := Yq (H3.out.call hp4 hk4 ((Sx.GoesN.next s).mono (by omega)))
     clear hp4 hk4
     have HPt := Yq (reserved_any A p B gm v ts s.next m w4 w0 Hs.out H4.out)
     go_wp2_with fail
     refine HPt.out.mono ?_
     rintro e w31 ⟨rfl, m', hm', h31⟩
     have HMm := Yq hm'; have H31 := Yq h31
     clear hm' h31
     go_wp2_with fail
     go_end0
     rw [HR.out]
     exact ⟨rfl, m', HMm.out, H31.out⟩
   ·rw [hs] at HW3
    simp only [↓reduceIte, Bool.false_eq_true] at HW3
    replace HR := HR.out
    rw [hs] at HR
    simp only [↓reduceIte, Bool.false_eq_true] at HR
    replace HR := Yq HR
    clear hs
    go_wp2_with fail
    refine HW3.out.mono ?_
    rintro e w3 ⟨rfl, hp3, hk3⟩
    have H3 := Yq (H2.out.call hp3 hk3 ((Sx.GoesN.next s).mono (by omega)))
    clear hp3 hk3
    have HPt := Yq (oneof_any A p B gm v ts s.next m w3 w0 Hs.out H3.out)
    go_wp2_with fail
    refine HPt.out.mono ?_
    rintro e w31 ⟨rfl, m', hm', h31⟩
    have HMm := Yq hm'; have H31 := Yq h31
    clear hm' h31
    go_wp2_with fail
    go_end0
    rw [HR.out]
    exact ⟨rfl, m', HMm.out, H31.out⟩
  ·rw [hs] at HW2
   simp only [↓reduceIte, Bool.false_eq_true] at HW2
   replace HR := HR.out
   rw [hs] at HR
   simp only [↓reduceIte, Bool.false_eq_true] at HR
   replace HR := Yq HR
   clear hs
   go_wp2_with fail
   refine HW2.out.mono ?_
   rintro e w2 ⟨rfl, hp2, hk2⟩
   have H2 := Yq (H1.out.call hp2 hk2 ((Sx.GoesN.next s).mono (by omega)))
   clear hp2 hk2
   have H30 := Yq (H2.out.below (Below.refl _ _).drew)
   have Hfg := Yq (Sx.enum_go ts s.next)
   have HFd := Yq (enum_any A p v ts s.next w2.drew H30.out.env H30.out.par)
   have Hpl2 : Hid (s.next.pos ≤ ts.length) := Yq (by obtain ⟨_, _, _, _, h3⟩ := H30.out.par; exact h3)
   generalize Sx.enum ts s.next = X at *
   obtain ⟨y, s4⟩ := X
   simp only at Hfg
   unfold EnmPost at HFd
   simp only at HFd
   go_wp2_with fail
   refine wp_region_G 11 (fun _ => True) (fun w' => Blk w' gm m.cells) (by kernel_rfl) trivial H30.out.blk (fun _ => ?_)
   refine wpAnyG_take0 (i := 0) (v := .pointer (some ⟨gm, 0, none⟩)) rfl (by kernel_rfl) (fun _ _ _ h => h) (.inl ⟨by rfl, fun w hw => by go_simp⟩) (InvG.mk trivial H30.out.blk) ?_
   refine fSxPartA12_102 ?_
   refine wpAnyG_take0 (i := 1) (v := .pointer (some ⟨gm, 0, none⟩)) rfl (by kernel_rfl) (fun _ _ _ h => h) (.inl ⟨by rfl, fun w hw => by go_simp⟩) (InvG.mk trivial H30.out.blk) ?_
   refine fSxPartA12_102 ?_
   refine wpAnyG_take0 (i := 2) (v := .pointer (some ⟨gm, 0, none⟩)) rfl (by kernel_rfl) (fun _ _ _ h => h) (.inl ⟨by rfl, fun w hw => by go_simp⟩) (InvG.mk trivial H30.out.blk) ?_
   refine fSxPartA12_102 ?_
   refine wpAnyG_take0 (i := 3) (v := .pointer (some ⟨gm, 4, none⟩)) rfl (by kernel_rfl) (fun _ _ _ h => h) (.inl ⟨by rfl, fun w hw => by go_simp⟩) (InvG.mk trivial H30.out.blk) ?_
   refine fSxPartA12_102 ?_
   refine wpAnyG_take (i := 4) (v := m.v4) rfl (by kernel_rfl) (fun _ _ _ h => h) (.inl ⟨by rfl, fun w hw => by have hc := hw.2.cell (o := 4) (u := m.v4) rfl; clear hw; go_simp⟩) (InvG.mk trivial H30.out.blk) ?_
   refine fSxPartA12_102 ?_
   refine wpAnyG_take0 (i := 5) (v := .pointer (some ⟨p, 0, none⟩)) rfl (by kernel_rfl) (fun _ _ _ h => h) (.inl ⟨by rfl, fun w hw => by go_simp⟩) (InvG.mk trivial H30.out.blk) ?_
   refine fSxPartA12_102 ?_
   refine wpAnyG_ready (rs := [6]) (by kernel_rfl) (by simp) ?_
   refine AllReadyG.plain rfl rfl (fun K hK => ?_) AllReadyG.nil
   go_simp
   refine HFd.out.mono ?_
   rintro e w31 ⟨xc, rfl, hx31, hp31, hk31⟩
   have H31 := Yq (H30.out.call hp31 hk31 (Hfg.out.mono (by omega)))
   have Hfit : Hid (Sx.Fit ts (m.ess.length + 1) s4) := Yq (H30.out.fit.f4.push Hs.out Hpl2.out Hfg.out)
   have HXr := Yq (hx31.mono H30.out.fresh)
   have HXl := Yq hx31.size
   have HX1 := Yq hx31.one
   clear hp31 hk31 hx31
   refine hK.out _ _ (InvG.mk trivial H31.out.blk) (fun _ => ?_)
   clear hK
   refine fSxPartA12_102 ?_
   refine wpAnyG_ready (rs := [7]) (by kernel_rfl) (by simp) ?_
   refine AllReadyG.plain rfl rfl (fun K hK => ?_) AllReadyG.nil
   refine wp_buildSlice1 24 71 _ rfl xc (.agg xc.toArray) (by go_simp) Tryz.underlying24 (by rw [HXl.out]; exact info2E) (by rw [HXl.out]; decide) (by rw [HXl.out]; decide) rfl ?_
   refine hK.out _ _ (InvG.mk trivial ((H31.out.below ((Below.refl _ _).alloc (Nat.le_refl _) _)).blk)) (fun _ => ?_)
   clear hK
   refine fSxPartA12_102 ?_
   refine wpAnyG_ready (rs := [8]) (by kernel_rfl) (by simp) ?_
   refine AllReadyG.plain rfl rfl (fun K hK => ?_) AllReadyG.nil
   refine wp_append_own1 T_En _ _ rfl xc (by go_simp) H31.out.own4 (by go_simp) HXl.out HX1.out (by have h1 := H31.out.fit.f4.2; have h2 := Hsm.out.few; omega) H31.out.lts.2.2 ?_
   intro u9 w38 ho8 hg8 hat8 hone8
   have HB8 : Blk w38 gm m.cells := H31.out.blk8 (r := m.r4) (by simp [MV.rows]) hg8
   refine hK.out _ _ (InvG.mk trivial HB8) (fun _ => ?_)
   clear hK
   refine fSxPartA12_102 ?_
   refine wpAnyG_take0 (i := 9) (v := .pointer (some ⟨gm, 0, none⟩)) rfl (by kernel_rfl) (fun _ _ _ h => h) (.inl ⟨by rfl, fun w hw => by go_simp⟩) (InvG.mk trivial HB8) ?_
   refine fSxPartA12_102 ?_
   refine wpAnyG_take0 (i := 10) (v := .pointer (some ⟨gm, 4, none⟩)) rfl (by kernel_rfl) (fun _ _ _ h => h) (.inl ⟨by rfl, fun w hw => by go_simp⟩) (InvG.mk trivial HB8) ?_
   refine fSxPartA12_102 ?_
   refine wpAnyG_ready (rs := [11]) (by kernel_rfl) (by simp) ?_
   refine AllReadyG.plain rfl rfl (fun K hK => ?_) AllReadyG.nil
   refine wp_store_lay 24 _ _ rfl gm 4 u9 [u9] m.cells (by go_simp) (by go_simp) (one_cells hone8) HB8 info_slE (show 4 + 1 ≤ 9 by decide) (one1 hone8) ?_
   intro w39 hB9 hg9 hs9
   have H39p := Yq (H31.out.push4 Hfit.out HXr.out ho8 hg8 hat8 hB9 hg9)
   clear ho8 hg8 hat8 hone8 HB8 hB9 hg9 hs9
   refine hK.out _ _ (InvG.past trivial (by kernel_rfl)) (fun _ => ?_)
   clear hK
   refine fSxPartA12_102 ?_
   refine wpAnyG_done (by kernel_rfl) ?_ _
   go_wp2_with fail
   go_end0
   rw [HR.out]
   exact ⟨rfl, { m with v4 := u9, es := m.es ++ [y], ess := m.ess ++ [xc] }, rfl, H39p.out⟩
 ·rw [hs] at HW1
  simp only [↓reduceIte, Bool.false_eq_true] at HW1
  replace HR := HR.out
  rw [hs] at HR
  simp only [↓reduceIte, Bool.false_eq_true] at HR
  replace HR := Yq HR
  clear hs
  go_wp2_with fail
  refine HW1.out.mono ?_
  rintro e w1 ⟨rfl, hp1, hk1⟩
  have H1 := Yq (H0.out.call hp1 hk1 ((Sx.GoesN.next s).mono (by omega)))
  clear hp1 hk1
  have H30 := Yq (H1.out.below (Below.refl _ _).drew)
  have Hfg := Yq (Sx.messageBy_go ts (B := Sx.parts ts n) (Sx.parts_go ts n) (deep + 1) s.next)
  have HFd := Yq (fun w1 (h1 : MAt A p B gm v ts w0 s.next m w1) => HMs.out (deep + 1) s.next w1 (by have := Hd.out; omega) h1.env h1.par (fun _ => by have h1 := HFu.out; have h2 : s.next.pos = s.pos + 1 := rfl; omega))
  have Hpl2 : Hid (s.next.pos ≤ ts.length) := Yq (by obtain ⟨_, _, _, _, h3⟩ := H30.out.par; exact h3)
  generalize Sx.messageBy ts (Sx.parts ts n) (deep + 1) s.next = X at *
  obtain ⟨y, s4⟩ := X
  simp only at Hfg
  unfold MsgPost at HFd
  simp only at HFd
  obtain ⟨nm, hnm⟩ : ∃ z, z = m.mss.length := ⟨_, rfl⟩
  obtain ⟨a3, q3, hv3, _⟩ := own_slice H30.out.own3
  rw [← hnm] at hv3
  have Hv3 := Yq hv3; have Hnm := Yq hnm
  clear hv3 hnm
  go_wp2_with fail
  refine wp_region_G 15 (fun _ => True) (fun w' => Blk w' gm m.cells) (by kernel_rfl) trivial H30.out.blk (fun _ => ?_)
  refine wpAnyG_take0 (i := 0) (v := .pointer (some ⟨gm, 0, none⟩)) rfl (by kernel_rfl) (fun _ _ _ h => h) (.inl ⟨by rfl, fun w hw => by go_simp⟩) (InvG.mk trivial H30.out.blk) ?_
  refine fSxPartA16_102 ?_
  refine wpAnyG_take0 (i := 1) (v := .pointer (some ⟨gm, 0, none⟩)) rfl (by kernel_rfl) (fun _ _ _ h => h) (.inl ⟨by rfl, fun w hw => by go_simp⟩) (InvG.mk trivial H30.out.blk) ?_
  refine fSxPartA16_102 ?_
  refine wpAnyG_take0 (i := 2) (v := .pointer (some ⟨gm, 3, none⟩)) rfl (by kernel_rfl) (fun _ _ _ h => h) (.inl ⟨by rfl, fun w hw => by go_simp⟩) (InvG.mk trivial H30.out.blk) ?_
  refine fSxPartA16_102 ?_
  refine wpAnyG_take (i := 3) (v := .slice a3 nm q3) rfl (by kernel_rfl) (fun _ _ _ h => h) (.inl ⟨by rfl, fun w hw => by have hc := hw.2.cell (o := 3) (u := .slice a3 nm q3) (by rw [← Hv3.out]; rfl); clear hw; go_simp⟩) (InvG.mk trivial H30.out.blk) ?_
  refine fSxPartA16_102 ?_
  refine wpAnyG_take0 (i := 4) (v := .pointer (some ⟨p, 0, none⟩)) rfl (by kernel_rfl) (fun _ _ _ h => h) (.inl ⟨by rfl, fun w hw => by go_simp⟩) (InvG.mk trivial H30.out.blk) ?_
  refine fSxPartA16_102 ?_
  refine wpAnyG_take0 (i := 5) (v := .int .i64 deep) rfl (by kernel_rfl) (fun _ _ _ h => h) (.inl ⟨by rfl, fun w hw => by go_simp⟩) (InvG.mk trivial H30.out.blk) ?_
  refine fSxPartA16_102 ?_
  refine wpAnyG_take0 (i := 6) (v := .int .i64 ((deep : Int) + 1)) rfl (by kernel_rfl) (fun _ _ _ h => h) (.inl ⟨by rfl, fun w hw => by go_simp⟩) (InvG.mk trivial H30.out.blk) ?_
  refine fSxPartA16_102 ?_
  refine wpAnyG_take0 (i := 8) (v := .int .i64 nm) rfl (by kernel_rfl) (fun _ _ _ h => h) (.inl ⟨by rfl, fun w hw => by go_simp⟩) (InvG.mk trivial H30.out.blk) ?_
  refine fSxPartA16_102 ?_
  refine wpAnyG_ready (rs := [7, 9]) (by kernel_rfl) (by simp) ?_
  refine AllReadyG.plain rfl rfl (fun K hK => ?_) (AllReadyG.plain rfl rfl (fun K hK => ?_) AllReadyG.nil)
  ·go_simp
   refine (HFd.out _ H30.out).mono ?_
   rintro e w31 ⟨xc, rfl, hx31, hp31, hk31⟩
   have H31 := Yq (H30.out.call hp31 hk31 (Hfg.out.mono (by omega)))
   have Hfit : Hid (Sx.Fit ts (m.mss.length + 1) s4) := Yq (H30.out.fit.f3.push Hs.out Hpl2.out Hfg.out)
   have HXr := Yq (hx31.mono H30.out.fresh)
   have HXl := Yq hx31.size
   have HX1 := Yq hx31.one
   refine hK.out _ _ (InvG.mk trivial H31.out.blk) (fun _ => ?_)
   clear hK hp31 hk31 hx31
   refine fSxPartA16_102 ?_
   refine wpAnyG_ready (rs := [9]) (by kernel_rfl) (by simp) ?_
   refine AllReadyG.plain rfl rfl (fun K hK => ?_) AllReadyG.nil
   refine wp_buildSlice1 23 45 _ rfl zMs (.agg zMs.toArray) rfl Tryz.underlying23 info2M (show 0 < 9 by decide) (show 9 ≤ 1000 by decide) rfl ?_
   refine hK.out _ _ (InvG.mk trivial (H31.out.below ((Below.refl _ _).alloc (Nat.le_refl _) _)).blk) (fun _ => ?_)
   clear hK
   refine fSxPartA16_102 ?_
   have HZ : Hid (Blk (w31.alloc (.cells zMs.toArray 45)) w31.heap.size zMs) := Yq (Blk.new _ _ _)
   have H32 := Yq (H31.out.below ((Below.refl _ _).alloc (Nat.le_refl _) (.cells zMs.toArray 45)))
   replace HXr := Yq (HXr.out.mono (fragU_grown (World.grownBy_alloc w31 (.cells zMs.toArray 45) none) (fun k e => by cases e) (fun k hk => .inl hk)))
   generalize hwa : w31.alloc (.cells zMs.toArray 45) = wa at *
   generalize w31.heap.size = gz at *
   clear hwa
   refine wpAnyG_ready (rs := [10]) (by kernel_rfl) (by simp) ?_
   refine AllReadyG.plain rfl rfl (fun K hK => ?_) AllReadyG.nil
   refine wp_append_opt T_Ms _ _ rfl (m := 1) (c := 1) (ad := some ⟨gz, 0, none⟩) (news := zMs) (by go_simp; exact Hv3.out.symm) H32.out.own3 (by go_simp) (fun e => by cases e) (Nat.le_refl _) (by have hz := HZ.out; obtain ⟨tz, hz⟩ := hz; exact .inr ⟨gz, 0, _, tz, _, rfl, hz, fun i hi => by simp⟩) rfl zMs_ones (by have h1 := H32.out.fit.f3.2; have h2 := Hsm.out.few; omega) H32.out.lts.2.2 ?_
   intro v9 w38 ho8 hg8 hat8
   obtain ⟨g9, q9, hv9⟩ : ∃ g9 q9, v9 = .slice (some ⟨g9, 0, none⟩) (nm + 1) q9 := by
    rcases ho8.2 with ⟨_, hn⟩ | ⟨g9, q9, _, hv9, _⟩
    ·omega
    ·exact ⟨g9, q9, by rw [hv9, Hnm.out]⟩
   subst hv9
   have hb9 := (ho8.lt g9 rfl)
   have HB8 : Blk w38 gm m.cells := H32.out.blk8 (r := m.r3) (by simp [MV.rows]) hg8
   have hidx : ∀ w, (Instr.indexAt 23 (.slice (some ⟨g9, 0, none⟩) (nm + 1) q9) (.int .i64 nm)).run Tryz.prog w = .ok (.pointer (some ⟨g9, nm * 9, none⟩)) w := fun w => own_idx (by omega) Tryz.underlying23 sizeMsS w
   refine hK.out _ _ (InvG.mk trivial HB8) (fun _ => ?_)
   clear hK
   refine fSxPartA16_102 ?_
   refine wpAnyG_take0 (i := 11) (v := .pointer (some ⟨g9, nm * 9, none⟩)) rfl (by kernel_rfl) (fun _ _ _ h => h) (.inl ⟨by rfl, fun w hw => by have hi := hidx; clear hw; go_simp⟩) (InvG.mk trivial HB8) ?_
   refine fSxPartA16_102 ?_
   refine wpAnyG_take0 (i := 13) (v := .pointer (some ⟨gm, 0, none⟩)) rfl (by kernel_rfl) (fun _ _ _ h => h) (.inl ⟨by rfl, fun w hw => by go_simp⟩) (InvG.mk trivial HB8) ?_
   refine fSxPartA16_102 ?_
   refine wpAnyG_take0 (i := 14) (v := .pointer (some ⟨gm, 3, none⟩)) rfl (by kernel_rfl) (fun _ _ _ h => h) (.inl ⟨by rfl, fun w hw => by go_simp⟩) (InvG.mk trivial HB8) ?_
   refine fSxPartA16_102 ?_
   refine wpAnyG_ready (rs := [12, 15]) (by kernel_rfl) (by simp) ?_
   refine AllReadyG.plain rfl rfl (fun K hK => ?_) (AllReadyG.plain rfl rfl (fun K hK => ?_) AllReadyG.nil)
   ·rw [← Hnm.out] at ho8
    refine wp_store_own 45 _ _ rfl (vs := xc) (o := nm * 9) (v := .agg xc.toArray) (by go_simp) (by go_simp) rfl ho8 (infoMs.trans (congrArg some HXl.out.symm)) (by have h1 := ho8.1; rw [h1, HXl.out]; omega) HX1.out ?_
    intro w38b ho8b hg8b hs8b
    have hfl : m.mss.flatten.length = nm * 9 := by have h1 := H32.out.own3.1; rw [Hnm.out]; exact h1
    rw [patch_last hfl (by rw [HXl.out]; rfl)] at ho8b
    have hat9 : (Value.slice (some ⟨g9, 0, none⟩) (nm + 1) q9).ownBlock = m.v3.ownBlock ∨ ∃ g, (Value.slice (some ⟨g9, 0, none⟩) (nm + 1) q9).ownBlock = some g ∧ wa.heap.size ≤ g := by
     rcases hat8 with h1 | h1
     ·exact .inl h1
     ·exact .inr ⟨_, h1, Nat.le_refl _⟩
    have hg8c := grown_then hg8 hg8b (by rcases hat8 with h1 | h1; exact .inl h1.symm; cases h1; exact .inr (Nat.le_refl _))
    have hne : some gm ≠ some g9 := fun e => by cases e; have h1 := hb9.1; have h2 := H32.out.lts; omega
    have HB8b : Blk w38b gm m.cells := HB8.grown hg8b hne
    refine hK.out _ _ (InvG.mk trivial HB8b) (fun _ => ?_)
    clear hK
    refine fSxPartA16_102 ?_
    refine wpAnyG_ready (rs := [15]) (by kernel_rfl) (by simp) ?_
    refine AllReadyG.plain rfl rfl (fun K hK => ?_) AllReadyG.nil
    refine wp_store_lay 23 _ _ rfl gm 3 (.slice (some ⟨g9, 0, none⟩) (nm + 1) q9) [.slice (some ⟨g9, 0, none⟩) (nm + 1) q9] m.cells (by go_simp) (by go_simp) rfl HB8b info_slM (show 3 + 1 ≤ 9 by decide) (one1 rfl) ?_
    intro w39 hB9 hg9 hs9
    rw [Hnm.out] at ho8b hat9 hB9
    have H39 := Yq (H32.out.push3 Hfit.out HXr.out ho8b hg8c hat9 hB9 hg9)
    clear ho8 hg8 hat8 HB8 hB9 hg9 hs9 ho8b hg8b hs8b hfl hg8c hne HB8b hat9 hidx hb9
    refine hK.out _ _ (InvG.past trivial (by kernel_rfl)) (fun _ => ?_)
    clear hK
    refine fSxPartA16_102 ?_
    refine wpAnyG_done (by kernel_rfl) ?_ _
    go_wp2_with fail
    go_end0
    rw [HR.out]
    exact ⟨rfl, _, rfl, H39.out⟩
   ·refine wp_store_lay 23 _ _ rfl gm 3 (.slice (some ⟨g9, 0, none⟩) (nm + 1) q9) [.slice (some ⟨g9, 0, none⟩) (nm + 1) q9] m.cells (by go_simp) (by go_simp) rfl HB8 info_slM (show 3 + 1 ≤ 9 by decide) (one1 rfl) ?_
    intro w39 hB9 hg9 hs9
    refine hK.out _ _ (InvG.past trivial (by kernel_rfl)) (fun _ => ?_)
    clear hK
    refine fSxPartA16_102 ?_
    refine wpAnyG_ready (rs := [12]) (by kernel_rfl) (by simp) ?_
    refine AllReadyG.plain rfl rfl (fun K hK => ?_) AllReadyG.nil
    have hnb : m.v3.ownBlock = m.v3.ownBlock := rfl
    rw [← Hnm.out] at ho8
    have ho9 := ho8.kept hg9 (.inr (fun e => by have e2 : g9 = gm := Option.some.inj e; have h1 := hb9.1; have h2 := H32.out.lts; omega))
    refine wp_store_own 45 _ _ rfl (vs := xc) (o := nm * 9) (v := .agg xc.toArray) (by go_simp) (by go_simp) rfl ho9 (infoMs.trans (congrArg some HXl.out.symm)) (by have h1 := ho8.1; rw [h1, HXl.out]; omega) HX1.out ?_
    intro w38b ho8b hg8b hs8b
    have hfl : m.mss.flatten.length = nm * 9 := by have h1 := H32.out.own3.1; rw [Hnm.out]; exact h1
    rw [patch_last hfl (by rw [HXl.out]; rfl)] at ho8b
    have hat9 : (Value.slice (some ⟨g9, 0, none⟩) (nm + 1) q9).ownBlock = m.v3.ownBlock ∨ ∃ g, (Value.slice (some ⟨g9, 0, none⟩) (nm + 1) q9).ownBlock = some g ∧ wa.heap.size ≤ g := by
     rcases hat8 with h1 | h1
     ·exact .inl h1
     ·exact .inr ⟨_, h1, Nat.le_refl _⟩
    rw [Hnm.out] at ho8 ho8b hat9 hB9
    have H39 := Yq (H32.out.push3b Hfit.out HXr.out ho8 hg8 hat9 hB9 hg9 ho8b hg8b)
    clear ho8 hg8 hat8 HB8 hB9 hg9 hs9 ho8b hg8b hs8b hfl hat9 hidx hb9 ho9 hnb
    refine hK.out _ _ (InvG.past trivial (by kernel_rfl)) (fun _ => ?_)
    clear hK
    refine fSxPartA16_102 ?_
    refine wpAnyG_done (by kernel_rfl) ?_ _
    go_wp2_with fail
    go_end0
    rw [HR.out]
    exact ⟨rfl, _, rfl, H39.out⟩
  ·refine wp_buildSlice1 23 45 _ rfl zMs (.agg zMs.toArray) rfl Tryz.underlying23 info2M (show 0 < 9 by decide) (show 9 ≤ 1000 by decide) rfl ?_
   have H30b := Yq (H30.out.below ((Below.refl _ _).alloc (Nat.le_refl _) (.cells zMs.toArray 45)))
   have HZ0 : Hid (Blk (w1.drew.alloc (.cells zMs.toArray 45)) w1.drew.heap.size zMs) := Yq (Blk.new _ _ _)
   have Hgz : Hid (p < w1.drew.heap.size) := Yq H30.out.par.lt
   generalize hwa : w1.drew.alloc (.cells zMs.toArray 45) = wb at *
   generalize w1.drew.heap.size = gz at *
   clear hwa
   refine hK.out _ _ (InvG.mk trivial H30b.out.blk) (fun _ => ?_)
   clear hK
   refine fSxPartA16_102 ?_
   refine wpAnyG_ready (rs := [7]) (by kernel_rfl) (by simp) ?_
   refine AllReadyG.plain rfl rfl (fun K hK => ?_) AllReadyG.nil
   go_simp
   refine (HFd.out _ H30b.out).mono ?_
   rintro e w31 ⟨xc, rfl, hx31, hp31, hk31⟩
   have H31 := Yq (H30b.out.call hp31 hk31 (Hfg.out.mono (by omega)))
   have Hfit : Hid (Sx.Fit ts (m.mss.length + 1) s4) := Yq (H30.out.fit.f3.push Hs.out Hpl2.out Hfg.out)
   have HXr := Yq (hx31.mono H30b.out.fresh)
   have HXl := Yq hx31.size
   have HX1 := Yq hx31.one
   have HZ : Hid (Blk w31 gz zMs) := Yq (hk31.blk HZ0.out (by have := Hgz.out; simp; omega))
   have H32 := H31
   obtain ⟨wa, hwa⟩ : ∃ z, z = w31 := ⟨_, rfl⟩
   refine hK.out _ _ (InvG.mk trivial H31.out.blk) (fun _ => ?_)
   clear hK hp31 hk31 hx31
   refine fSxPartA16_102 ?_
   subst hwa
   refine wpAnyG_ready (rs := [10]) (by kernel_rfl) (by simp) ?_
   refine AllReadyG.plain rfl rfl (fun K hK => ?_) AllReadyG.nil
   refine wp_append_opt T_Ms _ _ rfl (m := 1) (c := 1) (ad := some ⟨gz, 0, none⟩) (news := zMs) (by go_simp; exact Hv3.out.symm) H32.out.own3 (by go_simp) (fun e => by cases e) (Nat.le_refl _) (by have hz := HZ.out; obtain ⟨tz, hz⟩ := hz; exact .inr ⟨gz, 0, _, tz, _, rfl, hz, fun i hi => by simp⟩) rfl zMs_ones (by have h1 := H32.out.fit.f3.2; have h2 := Hsm.out.few; omega) H32.out.lts.2.2 ?_
   intro v9 w38 ho8 hg8 hat8
   obtain ⟨g9, q9, hv9⟩ : ∃ g9 q9, v9 = .slice (some ⟨g9, 0, none⟩) (nm + 1) q9 := by
    rcases ho8.2 with ⟨_, hn⟩ | ⟨g9, q9, _, hv9, _⟩
    ·omega
    ·exact ⟨g9, q9, by rw [hv9, Hnm.out]⟩
   subst hv9
   have hb9 := (ho8.lt g9 rfl)
   have HB8 : Blk w38 gm m.cells := H32.out.blk8 (r := m.r3) (by simp [MV.rows]) hg8
   have hidx : ∀ w, (Instr.indexAt 23 (.slice (some ⟨g9, 0, none⟩) (nm + 1) q9) (.int .i64 nm)).run Tryz.prog w = .ok (.pointer (some ⟨g9, nm * 9, none⟩)) w := fun w => own_idx (by omega) Tryz.underlying23 sizeMsS w
   refine hK.out _ _ (InvG.mk trivial HB8) (fun _ => ?_)
   clear hK
   refine fSxPartA16_102 ?_
   refine wpAnyG_take0 (i := 11) (v := .pointer (some ⟨g9, nm * 9, none⟩)) rfl (by kernel_rfl) (fun _ _ _ h => h) (.inl ⟨by rfl, fun w hw => by have hi := hidx; clear hw; go_simp⟩) (InvG.mk trivial HB8) ?_
   refine fSxPartA16_102 ?_
   refine wpAnyG_take0 (i := 13) (v := .pointer (some ⟨gm, 0, none⟩)) rfl (by kernel_rfl) (fun _ _ _ h => h) (.inl ⟨by rfl, fun w hw => by go_simp⟩) (InvG.mk trivial HB8) ?_
   refine fSxPartA16_102 ?_
   refine wpAnyG_take0 (i := 14) (v := .pointer (some ⟨gm, 3, none⟩)) rfl (by kernel_rfl) (fun _ _ _ h => h) (.inl ⟨by rfl, fun w hw => by go_simp⟩) (InvG.mk trivial HB8) ?_
   refine fSxPartA16_102 ?_
   refine wpAnyG_ready (rs := [12, 15]) (by kernel_rfl) (by simp) ?_
   refine AllReadyG.plain rfl rfl (fun K hK => ?_) (AllReadyG.plain rfl rfl (fun K hK => ?_) AllReadyG.nil)
   ·rw [← Hnm.out] at ho8
    refine wp_store_own 45 _ _ rfl (vs := xc) (o := nm * 9) (v := .agg xc.toArray) (by go_simp) (by go_simp) rfl ho8 (infoMs.trans (congrArg some HXl.out.symm)) (by have h1 := ho8.1; rw [h1, HXl.out]; omega) HX1.out ?_
    intro w38b ho8b hg8b hs8b
    have hfl : m.mss.flatten.length = nm * 9 := by have h1 := H32.out.own3.1; rw [Hnm.out]; exact h1
    rw [patch_last hfl (by rw [HXl.out]; rfl)] at ho8b
    have hat9 : (Value.slice (some ⟨g9, 0, none⟩) (nm + 1) q9).ownBlock = m.v3.ownBlock ∨ ∃ g, (Value.slice (some ⟨g9, 0, none⟩) (nm + 1) q9).ownBlock = some g ∧ wa.heap.size ≤ g := by
     rcases hat8 with h1 | h1
     ·exact .inl h1
     ·exact .inr ⟨_, h1, Nat.le_refl _⟩
    have hg8c := grown_then hg8 hg8b (by rcases hat8 with h1 | h1; exact .inl h1.symm; cases h1; exact .inr (Nat.le_refl _))
    have hne : some gm ≠ some g9 := fun e => by cases e; have h1 := hb9.1; have h2 := H32.out.lts; omega
    have HB8b : Blk w38b gm m.cells := HB8.grown hg8b hne
    refine hK.out _ _ (InvG.mk trivial HB8b) (fun _ => ?_)
    clear hK
    refine fSxPartA16_102 ?_
    refine wpAnyG_ready (rs := [15]) (by kernel_rfl) (by simp) ?_
    refine AllReadyG.plain rfl rfl (fun K hK => ?_) AllReadyG.nil
    refine wp_store_lay 23 _ _ rfl gm 3 (.slice (some ⟨g9, 0, none⟩) (nm + 1) q9) [.slice (some ⟨g9, 0, none⟩) (nm + 1) q9] m.cells (by go_simp) (by go_simp) rfl HB8b info_slM (show 3 + 1 ≤ 9 by decide) (one1 rfl) ?_
    intro w39 hB9 hg9 hs9
    rw [Hnm.out] at ho8b hat9 hB9
    have H39 := Yq (H32.out.push3 Hfit.out HXr.out ho8b hg8c hat9 hB9 hg9)
    clear ho8 hg8 hat8 HB8 hB9 hg9 hs9 ho8b hg8b hs8b hfl hg8c hne HB8b hat9 hidx hb9
    refine hK.out _ _ (InvG.past trivial (by kernel_rfl)) (fun _ => ?_)
    clear hK
    refine fSxPartA16_102 ?_
    refine wpAnyG_done (by kernel_rfl) ?_ _
    go_wp2_with fail
    go_end0
    rw [HR.out]
    exact ⟨rfl, _, rfl, H39.out⟩
   ·refine wp_store_lay 23 _ _ rfl gm 3 (.slice (some ⟨g9, 0, none⟩) (nm + 1) q9) [.slice (some ⟨g9, 0, none⟩) (nm + 1) q9] m.cells (by go_simp) (by go_simp) rfl HB8 info_slM (show 3 + 1 ≤ 9 by decide) (one1 rfl) ?_
    intro w39 hB9 hg9 hs9
    refine hK.out _ _ (InvG.past trivial (by kernel_rfl)) (fun _ => ?_)
    clear hK
    refine fSxPartA16_102 ?_
    refine wpAnyG_ready (rs := [12]) (by kernel_rfl) (by simp) ?_
    refine AllReadyG.plain rfl rfl (fun K hK => ?_) AllReadyG.nil
    have hnb : m.v3.ownBlock = m.v3.ownBlock := rfl
    rw [← Hnm.out] at ho8
    have ho9 := ho8.kept hg9 (.inr (fun e => by have e2 : g9 = gm := Option.some.inj e; have h1 := hb9.1; have h2 := H32.out.lts; omega))
    refine wp_store_own 45 _ _ rfl (vs := xc) (o := nm * 9) (v := .agg xc.toArray) (by go_simp) (by go_simp) rfl ho9 (infoMs.trans (congrArg some HXl.out.symm)) (by have h1 := ho8.1; rw [h1, HXl.out]; omega) HX1.out ?_
    intro w38b ho8b hg8b hs8b
    have hfl : m.mss.flatten.length = nm * 9 := by have h1 := H32.out.own3.1; rw [Hnm.out]; exact h1
    rw [patch_last hfl (by rw [HXl.out]; rfl)] at ho8b
    have hat9 : (Value.slice (some ⟨g9, 0, none⟩) (nm + 1) q9).ownBlock = m.v3.ownBlock ∨ ∃ g, (Value.slice (some ⟨g9, 0, none⟩) (nm + 1) q9).ownBlock = some g ∧ wa.heap.size ≤ g := by
     rcases hat8 with h1 | h1
     ·exact .inl h1
     ·exact .inr ⟨_, h1, Nat.le_refl _⟩
    rw [Hnm.out] at ho8 ho8b hat9 hB9
    have H39 := Yq (H32.out.push3b Hfit.out HXr.out ho8 hg8 hat9 hB9 hg9 ho8b hg8b)
    clear ho8 hg8 hat8 HB8 hB9 hg9 hs9 ho8b hg8b hs8b hfl hat9 hidx hb9 ho9 hnb
    refine hK.out _ _ (InvG.past trivial (by kernel_rfl)) (fun _ => ?_)
    clear hK
    refine fSxPartA16_102 ?_
    refine wpAnyG_done (by kernel_rfl) ?_ _
    go_wp2_with fail
    go_end0
    rw [HR.out]
    exact ⟨rfl, _, rfl, H39.out⟩
end Go.Proofs.YtpcfdngnmigkfaaGreatDoor
