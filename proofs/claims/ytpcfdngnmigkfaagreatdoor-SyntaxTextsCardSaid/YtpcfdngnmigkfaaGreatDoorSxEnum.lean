/- Package syntax, walked: enums. -/
import Derived.Test.YtpcfdngnmigkfaaGreatDoorGroupN
import Derived.Test.YtpcfdngnmigkfaaGreatDoorGroupA
set_option linter.unusedVariables false
set_option linter.unusedSimpArgs false
namespace Go.Proofs.YtpcfdngnmigkfaaGreatDoor
open Go.RowKit
theorem fSxEnumA8_46 {P : Program} {M : Region.Mode} {O : Array Oper} {Q : Exit → Act → World → Prop} {Y Z : World → Prop} {f F : Nat} {a b c e g i j k : Bool} {l m n o p q r s t u v x y z a0 a1 a2 a3 a4 a5 a6 a7 a8 a9 aA aB aC aD aE aF aG aH aI aJ aK aL aM aN aO aP aQ aR aS aT aU aV : Value} {d} {w : World} (h : wpAnyG P M O Q Y Z f F #[a,b,c,e,g,i,j,k] ⟨#[l,m,n,o,p,q,r,s,t,u,v,x,y,z,a0,a1,a2,a3,a4,a5,a6,a7,a8,a9,aA,aB,aC,aD,aE,aF,aG,aH,aI,aJ,aK,aL,aM,aN,aO,aP,aQ,aR,aS,aT,aU,aV],d⟩ w) : wpAnyG P M O Q Y Z f F #[a,b,c,e,g,i,j,k] ⟨#[l,m,n,o,p,q,r,s,t,u,v,x,y,z,a0,a1,a2,a3,a4,a5,a6,a7,a8,a9,aA,aB,aC,aD,aE,aF,aG,aH,aI,aJ,aK,aL,aM,aN,aO,aP,aQ,aR,aS,aT,aU,aV],d⟩ w := h
def enRow (u : Value) (l : List Sx.Val) : ORow := ⟨116, 4, u, l.length, l.flatMap vC⟩
structure EAt (A : Nat → Addr) (p B ge : Nat) (v : Value) (ts : List Lx.Tok) (w0 : World) (nm : Lx.Bs) (li co : Nat) (s : Sx.St) (u : Value) (l : List Sx.Val) (w : World) : Prop where
 par : Par A p v ts s w
 env : Env A p v ts w
 blk : Blk w ge [.string (toB nm), u, .int .i64 li, .int .i64 co]
 rows : Rows B w [enRow u l]
 kept : KeptB B [p, ge] w0 w
 lts : p < ge ∧ ge < B ∧ B ≤ w.heap.size
 fit : Sx.Fit ts l.length s
theorem EAt.call {A : Nat → Addr} {p B ge : Nat} {v : Value} {ts : List Lx.Tok} {w0 w w' : World} {nm : Lx.Bs} {li co : Nat} {s s' : Sx.St} {u : Value} {l : List Sx.Val} (h : EAt A p B ge v ts w0 nm li co s u l w) (hp : Par A p v ts s' w') (hk : Kept [p] w w') (hg : Sx.GoesN 0 s s') : EAt A p B ge v ts w0 nm li co s' u l w' :=
 ⟨hp, h.env.kept hk h.par.lt (fun k hm => by rw [List.mem_singleton.1 hm]; exact Nat.le_refl _), hk.blk h.blk (by have := h.lts; simp; omega), h.rows.grown hk.grown (fun k e => by cases e; have := h.lts; omega), h.kept.trans (KeptB.of_kept hk h.lts.2.2 (fun k hm _ => by rw [List.mem_singleton.1 hm]; simp)), ⟨h.lts.1, h.lts.2.1, Nat.le_trans h.lts.2.2 hk.size⟩, h.fit.go hg⟩
theorem EAt.below {A : Nat → Addr} {p B ge : Nat} {v : Value} {ts : List Lx.Tok} {w0 w w' : World} {nm : Lx.Bs} {li co : Nat} {s : Sx.St} {u : Value} {l : List Sx.Val} (h : EAt A p B ge v ts w0 nm li co s u l w) (hb : Below w.heap.size w w') : EAt A p B ge v ts w0 nm li co s u l w' :=
 h.call (h.par.below hb) (Kept.of_below hb) (Sx.GoesN.refl s)
theorem EAt.push {A : Nat → Addr} {p B ge : Nat} {v : Value} {ts : List Lx.Tok} {w0 w w8 w9 : World} {nm : Lx.Bs} {li co : Nat} {s : Sx.St} {u u' : Value} {l : List Sx.Val} {x : Sx.Val} (h : EAt A p B ge v ts w0 nm li co s u l w) (hfit : Sx.Fit ts (l.length + 1) s)
  (ho : w8.ownsRow B 116 4 u' (l.length + 1) (l.flatMap vC ++ vC x)) (hg : w.grownBy w8 u.ownBlock) (hat : u'.ownBlock = u.ownBlock ∨ ∃ g, u'.ownBlock = some g ∧ w.heap.size ≤ g)
  (hB9 : Blk w9 ge [.string (toB nm), u', .int .i64 li, .int .i64 co]) (hg9 : w8.grownBy w9 (some ge)) : EAt A p B ge v ts w0 nm li co s u' (l ++ [x]) w9 := by
 have hown := h.rows.own (enRow u l) (by simp)
 have hge : ∀ k, u.ownBlock = some k → B ≤ k := fun k e => (hown.lt k e).1
 obtain ⟨hp8, he8⟩ := Par.rowed h.env h.par hown (show 116 ≠ 75 by decide) (by have := h.lts; omega) hg
 have hb8 : Blk w8 ge [.string (toB nm), u, .int .i64 li, .int .i64 co] := h.blk.grown hg (fun e => by have := hge ge e.symm; have := h.lts; omega)
 obtain ⟨hp9, he9⟩ := Par.wrote he8 hp8 hb8 (show (4 : Nat) ≠ 3 by decide) hg9 h.lts.1
 have hr8 := (Rows.push (L := []) (M := []) h.rows ho hg hat).1
 refine ⟨hp9, he9, hB9, ?_, (h.kept.trans (KeptB.of_grown hg h.lts.2.2 (fun k e => .inl (hge k e)))).trans (KeptB.of_grown hg9 (Nat.le_trans h.lts.2.2 hg.size) (fun k e => by cases e; right; simp)), ⟨h.lts.1, h.lts.2.1, Nat.le_trans h.lts.2.2 (Nat.le_trans hg.size hg9.size)⟩, by rw [List.length_append]; exact hfit⟩
 have hr9 := hr8.grown hg9 (fun k e => by cases e; exact h.lts.2.1)
 have e : enRow u' (l ++ [x]) = ⟨116, 4, u', l.length + 1, l.flatMap vC ++ vC x⟩ := by unfold enRow; simp [List.flatMap_append]
 rw [e]; exact hr9
theorem enm_build (a b : Int) (t : ByteArray) (w : World) : (Instr.build 71 #[(0, .string t), (2, .int .i64 a), (3, .int .i64 b)]).run Tryz.prog w = .ok (.agg #[.string t, .slice none 0 0, .int .i64 a, .int .i64 b]) w := by kernel_rfl
theorem info_sl1 : (Tryz.prog.info? 69).map (·.size) = some 1 := by kernel_rfl
theorem info2Vl : (Tryz.prog.info? 116).map (fun i => (i.size, i.zero.map (fun z => z.cells.size))) = some (4, some 4) := by kernel_rfl
def EnmPost (A : Nat → Addr) (p : Nat) (v : Value) (ts : List Lx.Tok) (w : World) (r : Sx.Enm × Sx.St) (e : Ending) (w' : World) : Prop :=
 ∃ cs, e = .returned (.agg cs.toArray) ∧ EnmR (fragU w' w.heap.size []) r.1 cs ∧ Par A p v ts r.2 w' ∧ Kept [p] w w'
set_option maxHeartbeats 8000000 in
set_option maxRecDepth 100000 in
theorem enum_any (A : Nat → Addr) (p : Nat) (v : Value) (ts : List Lx.Tok) (s : Sx.St) (w : World) (hE : Env A p v ts w) (hP : Par A p v ts s w) :
  Calls Tryz.prog 27 #[.pointer (some ⟨p, 0, none⟩)] w (EnmPost A p v ts w (Sx.enum ts s)) := by
 have Hv := Yq hE; have Hp := Yq hP; have Hplt := Yq hP.lt
 have Hsm := Yq hE.small
 obtain ⟨R, hR⟩ : ∃ R, R = Sx.enum ts s := ⟨_, rfl⟩
 rw [← hR]
 have HR := Yq hR
 have hfd := field_num
 have hbd := enm_build
 clear hR hE hP
 go_enter Tryz.func27, Tryz.ntmps27
 go_upto_region 1 with (first
  | (refine wpList_alloc_lay rfl 71 rfl zEn zeroEn ?_; (intro w1 gr hgr hBr hb1)))
 have HE1 := Yq (Hv.out.below (hb1.mono (Nat.le_of_lt Hplt.out)))
 have HN := Yq (name_arr A p v ts s w1 HE1.out.vars (Hp.out.below hb1))
 have Hb1 := Yq hb1; have HBr := Yq hBr; have Hgr := Yq hgr
 have Hne := Yq (show p < gr from Nat.lt_of_lt_of_le Hplt.out hgr)
 clear hb1 hBr hgr
 obtain ⟨N, hN⟩ : ∃ N, N = Sx.of ts 1 s := ⟨_, rfl⟩
 rw [← hN] at HN
 have HNe := Yq hN
 obtain ⟨x, s1⟩ := N
 simp only at HN
 clear hN
 go_upto_region 2 with (first
  | (go_at_call 52; (with_reducible refine HN.out.mono ?_); rintro e w2 ⟨rfl, hp2, hk2⟩; have HE2 := Yq (HE1.out.kept hk2 (Nat.lt_of_lt_of_le Hplt.out Hb1.out.size) (fun k hm => by rw [List.mem_singleton.1 hm]; exact Nat.le_refl _)); have HP2 := Yq hp2; have HK2 := Yq ((Kept.of_below Hb1.out).trans hk2); have HBr2 := Yq (hk2.blk HBr.out (by have := Hne.out; simp; omega)); clear hp2 hk2)
  | (refine wpList_alloc_lay rfl 80 rfl zT zeroT ?_; (intro w3 g5 hg5 hB5 hb3))
  | (refine wpList_store_all rfl 80 _ _ rfl g5 (tC x) rfl rfl zT hB5 infoT rfl (one_tC x) ?_; (intro w4 hB6 hgr4; have hb4 := Below.grown hb3 hgr4 hb3.size (fun _ e => by cases e; exact hg5); clear hb3 hgr4 hB5)))
 have d1 : w4.cell? ⟨g5, 1, none⟩ = some (.string (toB x.text)) := hB6.cell (o := 1) rfl
 have d3 : w4.cell? ⟨g5, 3, none⟩ = some (.int .i64 x.line) := hB6.cell (o := 3) rfl
 have d4 : w4.cell? ⟨g5, 4, none⟩ = some (.int .i64 x.col) := hB6.cell (o := 4) rfl
 have Hb4 := Yq hb4
 clear hB6 hg5 hb4
 go_upto_region 3 with (first
  | (refine wpList_alloc_lay rfl 71 rfl zEn zeroEn ?_; (intro w5 ge hge hBv hb5))
  | (refine wpList_store_all rfl 71 _ _ rfl ge [.string (toB x.text), .slice none 0 0, .int .i64 x.line, .int .i64 x.col] rfl rfl zEn hBv infoEn rfl ?_ ?_; (· intro u hu; simp only [List.mem_cons, List.not_mem_nil, or_false] at hu; rcases hu with rfl | rfl | rfl | rfl <;> rfl); (intro w6 hB6 hgr6; have hb6 := Below.grown hb5 hgr6 hb5.size (fun _ e => by cases e; exact hge); clear hb5 hgr6 hBv)))
 have Hb6 : Hid (Below w2.heap.size w2 w6) := Yq (Hb4.out.trans (hb6.mono Hb4.out.size))
 have hge2 : w2.heap.size ≤ ge := Nat.le_trans Hb4.out.size hge
 have Hge : Hid (Blk w6 gr zEn ∧ w.heap.size ≤ ge ∧ w.heap.size ≤ gr ∧ gr ≠ ge ∧ p < ge ∧ p < gr) := Yq ⟨HBr2.out.below Hb6.out HBr2.out.lt, Nat.le_trans HK2.out.size hge2, Hgr.out, fun e => by have := HBr2.out.lt; omega, by have := Hplt.out; have := HK2.out.size; omega, Hne.out⟩
 have HK6 : Hid (Kept [p] w w6) := Yq (HK2.out.trans (Kept.of_below Hb6.out))
 have H6 : Hid (EAt A p w6.heap.size ge v ts w6 x.text x.line x.col s1 (.slice none 0 0) [] w6) := Yq ⟨HP2.out.below Hb6.out, HE2.out.below (Hb6.out.mono (by have := Hplt.out; have := HK2.out.size; omega)), hB6, Rows.nil _ _ _ (fun r hr => by rw [List.mem_singleton.1 hr]; exact ⟨rfl, rfl, rfl⟩), KeptB.refl _ _ _, ⟨Hge.out.2.2.2.2.1, hB6.lt, Nat.le_refl _⟩, Sx.Fit.zero _⟩
 clear hB6 hge hge2 hb6 d1 d3 d4
 have HS := Yq (sign_any A p 123 v ts s1 w6 H6.out.env.vars H6.out.env.glt H6.out.par)
 go_wp2_with fail
 refine HS.out.mono ?_
 rintro e w7 ⟨rfl, hp7, hk7⟩
 have H7 := Yq (H6.out.call hp7 hk7 ((Sx.sign_go ts 123 s1).mono (by omega)))
 clear hp7 hk7
 obtain ⟨V, hV⟩ : ∃ V, V = Sx.values ts (ts.length + 2) [] (Sx.sign ts 123 s1) := ⟨_, rfl⟩
 have HEnd : Hid (R = (⟨x.text, V.1, x.line, x.col⟩, Sx.early ts (decide (V.1 ≠ [])) V.2)) := Yq (by
  rw [HR.out]; unfold Sx.enum
  have e1 := HNe.out
  rw [← e1, hV])
 have HV := Yq hV
 clear hV
 go_wp2_with fail
 go_loopg [] (ts.length + 2) (fun n wr => ∃ (u : Value) (l : List Sx.Val) (s' : Sx.St), Hid (EAt A p w6.heap.size ge v ts w6 x.text x.line x.col s' u l wr) ∧ Hid (V = Sx.values ts n l s') ∧ Hid (s'.err = none → ts.length + 2 ≤ s'.pos + n))
 case atStart => exact ⟨_, _, _, H7, HV, Yq (fun _ => by omega)⟩
 case round =>
  obtain ⟨u, l, s2, HA, HVn, HF⟩ := hrel
  have HM := Yq (more_any A p v ts s2 wr HA.out.par)
  have Hmg := Yq (Sx.more_go ts s2)
  have Hme := Yq (fun h => Sx.more_err ts (s := s2) h)
  have Hpo := Yq (fun h h2 => Sx.more_end ts (s := s2) h h2)
  have HVs : Hid (∀ n, gk = n + 1 → V = if (Sx.more ts s2).1 then Sx.values ts n (l ++ [(Sx.value ts (Sx.more ts s2).2).1]) (Sx.value ts (Sx.more ts s2).2).2 else (l, (Sx.more ts s2).2)) := Yq (fun n hn => by rw [HVn.out, hn, Sx.values])
  have HV0 : Hid ((Sx.more ts s2).1 = false → V = (l, (Sx.more ts s2).2) ∨ gk = 0) := Yq (fun h => by
   cases gk with
   | zero => exact .inr rfl
   | succ n => left; rw [HVn.out, Sx.values, h]; rfl)
  have HFp : Hid (s2.err = none → 1 ≤ gk) := Yq (fun h => by have h1 := HF.out h; have h2 := HA.out.par; obtain ⟨_, _, _, _, h3⟩ := h2; omega)
  have HV00 : Hid (gk = 0 → s2.err.isSome = true) := Yq (fun h => by
   cases he : s2.err with
   | none => have := HFp.out he; omega
   | some x => rfl)
  have HV1 : Hid ((Sx.more ts s2).1 = false → V = (l, (Sx.more ts s2).2)) := Yq (fun h => by
   rcases HV0.out h with h1 | h1
   ·exact h1
   ·have h2 := HV00.out h1
    rw [HVn.out, h1, Sx.stuck_more ts h2]; rfl)
  generalize Sx.more ts s2 = M at *
  obtain ⟨b, s3⟩ := M
  simp only at HM Hmg Hme HVs HV1 Hpo
  cases b
  ·have HEnd2 : Hid (R = (⟨x.text, l, x.line, x.col⟩, Sx.early ts (decide (l ≠ [])) s3)) := Yq (by rw [HEnd.out, HV1.out rfl])
   have Hpos := Yq (Hpo.out rfl)
   clear HVs HV1 HVn HF Hme HV0 HV00 HFp HEnd HV HR Hpo
   obtain ⟨ua, uc, rfl, _, hln, _, _⟩ := HRow.of_ownsU (show wr.ownsRow w6.heap.size 116 4 u l.length (l.flatMap vC) from HA.out.rows.own (enRow u l) (by simp)) (Nat.le_refl _)
   go_wp2_with fail
   refine HM.out.mono ?_
   rintro e w20 ⟨rfl, hp20, hk20⟩
   have H20 := Yq (HA.out.call hp20 hk20 (Hmg.out))
   clear hp20 hk20
   obtain ⟨ev, hB, hE, _, _⟩ := H20.out.par
   have c2 : w20.cell? ⟨p, 2, none⟩ = some ev := hB.cell (o := 2) rfl
   have ce : w20.cell? ⟨ge, 1, none⟩ = some (.slice ua l.length uc) := H20.out.blk.cell (o := 1) rfl
   have HB := Yq hB
   cases he : s3.err with
   | some z =>
    rw [he] at hE
    obtain ⟨g, rfl, _, _⟩ := hE
    have Hst : Hid (Sx.early ts (decide (l ≠ [])) s3 = s3) := Yq (by unfold Sx.early; rw [he]; rfl)
    clear hB he hln
    go_upto_region 9 with fail
    clear c2 ce
    have HBl := H20.out.blk.whole
    have HK9 := Yq (H20.out.kept.kept (Nat.le_refl _))
    have HBr := HK9.out.blk Hge.out.1 (by have := Hge.out; simp; omega)
    go_wp2_with (first
     | (refine wpList_load_seg rfl 71 _ rfl _ _ rfl _ _ HBl Tryz.underlying71 rfl infoEn ?_)
     | (refine wpList_store_all rfl 71 _ _ rfl gr [.string (toB x.text), .slice ua l.length uc, .int .i64 x.line, .int .i64 x.col] rfl rfl zEn HBr infoEn rfl ?_ ?_; (· intro u hu; simp only [List.mem_cons, List.not_mem_nil, or_false] at hu; rcases hu with rfl | rfl | rfl | rfl <;> rfl); (intro w30 hB30 hgr30)))
    have hend : R = (⟨x.text, l, x.line, x.col⟩, s3) := by rw [HEnd2.out]; rw [Hst.out]
    rw [hend]
    have hne8 : (4 : Nat) ≠ 3 := by decide
    have hown := H20.out.rows.own (enRow (.slice ua l.length uc) l) (by simp)
    have hown2 := hown.kept hgr30 (.inr (fun e => by have h1 := (hown.lt gr e).1; have h2 := Hge.out.1.lt; omega))
    refine bodyPost_ret (v := .agg [.string (toB x.text), .slice ua l.length uc, .int .i64 x.line, .int .i64 x.col].toArray) ?_ rfl ⟨_, rfl, ⟨_, rfl, FlatV.of_ownsU hown2 HK6.out.size, by show l.length ≤ 10000; have h1 := H20.out.fit.2; have h2 := Hsm.out.few; omega⟩, (Par.wrote H20.out.env H20.out.par HBr hne8 hgr30 Hge.out.2.2.2.2.2).1, ((HK6.out.trans2 HK9.out Hge.out.2.1).then_new hgr30 Hge.out.2.2.1)⟩
    exact results_blk (p := 2) (ty := 71) rfl _ _ gr [.string (toB x.text), .slice ua l.length uc, .int .i64 x.line, .int .i64 x.col] rfl hB30 _ Tryz.underlying71 rfl infoEn
   | none =>
    rw [he] at hE
    have hE : ev = .nilIface := hE
    subst hE
    by_cases hl : l = []
    ·have hl0 : l.length = 0 := by rw [hl]; rfl
     have Hst : Hid (Sx.early ts (decide (l ≠ [])) s3 = Sx.fail ts s3.back) := Yq (by unfold Sx.early; rw [he, hl]; rfl)
     have hpos := Hpos.out he
     have hz0 : (l.length : Int) = 0 := by rw [hl0]; rfl
     have hz : ((l.length : Int) == 0) = true := by rw [hl0]; rfl
     have c1 : w20.cell? ⟨p, 1, none⟩ = some (.int .i64 (s3.pos : Nat)) := hB.cell (o := 1) rfl
     have f1 := hB.frozen 1
     have hcm : s3.pos ≤ 9223372036854775807 := by
      obtain ⟨_, _, _, hF, hl⟩ := H20.out.par
      obtain ⟨_, _, _, h1, h2, _⟩ := hF.len
      unfold maxLen at h2; omega
     clear hB he hln hl hl0
     go_upto_region 8 with fail
     generalize hW : w20.setCell ⟨p, 1, none⟩ (.int .i64 ((s3.pos : Int) - 1)) = w21
     have hg : w20.grownBy w21 (some p) := by rw [← hW]; exact grown_setCell _ _ _
     have hB21 : Blk w21 p [v, .int .i64 (s3.back.pos : Nat), .nilIface] := by
      have e : (s3.pos : Int) - 1 = (s3.back.pos : Nat) := by show _ = ((s3.pos - 1 : Nat) : Int); omega
      rw [← hW, e]; exact HB.out.setCell (o := 1) _
     have hk21 : Kept [p] w20 w21 := Kept.of_grown hg (by simp)
     have hE21 := H20.out.env.kept hk21 H20.out.par.lt (fun k hm => by rw [List.mem_singleton.1 hm]; exact Nat.le_refl _)
     have he20 : s3.err = none := by
      cases he : s3.err with
      | none => rfl
      | some z =>
       obtain ⟨ev, hB2, hE2, _, _⟩ := H20.out.par
       have h1 := hB2.same HB.out
       rw [he] at hE2
       obtain ⟨g, h2, _⟩ := hE2
       rw [h2] at h1
       simp at h1
     have hp21 : Par A p v ts s3.back w21 := Par.again hE21 hB21 (by show ErrAt A p w21 s3.err _; rw [he20]; rfl) (by
      obtain ⟨_, _, _, _, h3⟩ := H20.out.par
      have : s3.back.pos = s3.pos - 1 := rfl
      omega)
     have HFl := Yq (fail_any A p v ts s3.back w21 hE21.vars hp21)
     have Hk21 := Yq hk21
     clear hW hg hB21 hk21 hE21 hp21 c1 c2 ce f1 hpos
     go_wp2_with fail
     refine HFl.out.mono ?_
     rintro e w22 ⟨rfl, hp22, hk22⟩
     have H22 := Yq (H20.out.call hp22 (Hk21.out.trans hk22) (fun e => by
      unfold Sx.fail at e
      have h0 : s3.back.err = none := he20
      rw [h0] at e
      cases e))
     clear hp22 hk22
     have HBl := H22.out.blk.whole
     have HK9 := Yq (H22.out.kept.kept (Nat.le_refl _))
     have HBr := HK9.out.blk Hge.out.1 (by have := Hge.out; simp; omega)
     go_wp2_with (first
      | (refine wpList_load_seg rfl 71 _ rfl _ _ rfl _ _ HBl Tryz.underlying71 rfl infoEn ?_)
      | (refine wpList_store_all rfl 71 _ _ rfl gr [.string (toB x.text), .slice ua l.length uc, .int .i64 x.line, .int .i64 x.col] rfl rfl zEn HBr infoEn rfl ?_ ?_; (· intro u hu; simp only [List.mem_cons, List.not_mem_nil, or_false] at hu; rcases hu with rfl | rfl | rfl | rfl <;> rfl); (intro w30 hB30 hgr30)))
     have hend : R = (⟨x.text, l, x.line, x.col⟩, Sx.fail ts s3.back) := by rw [HEnd2.out]; rw [Hst.out]
     rw [hend]
     have hne8 : (4 : Nat) ≠ 3 := by decide
     have hown := H22.out.rows.own (enRow (.slice ua l.length uc) l) (by simp)
     have hown2 := hown.kept hgr30 (.inr (fun e => by have h1 := (hown.lt gr e).1; have h2 := Hge.out.1.lt; omega))
     refine bodyPost_ret (v := .agg [.string (toB x.text), .slice ua l.length uc, .int .i64 x.line, .int .i64 x.col].toArray) ?_ rfl ⟨_, rfl, ⟨_, rfl, FlatV.of_ownsU hown2 HK6.out.size, by show l.length ≤ 10000; have h1 := H22.out.fit.2; have h2 := Hsm.out.few; omega⟩, (Par.wrote H22.out.env H22.out.par HBr hne8 hgr30 Hge.out.2.2.2.2.2).1, ((HK6.out.trans2 HK9.out Hge.out.2.1).then_new hgr30 Hge.out.2.2.1)⟩
     exact results_blk (p := 2) (ty := 71) rfl _ _ gr [.string (toB x.text), .slice ua l.length uc, .int .i64 x.line, .int .i64 x.col] rfl hB30 _ Tryz.underlying71 rfl infoEn
    ·have hl0 : ¬ l.length = 0 := fun e => hl (List.eq_nil_of_length_eq_zero e)
     have Hst : Hid (Sx.early ts (decide (l ≠ [])) s3 = s3) := Yq (by unfold Sx.early; rw [he, decide_eq_true hl]; rfl)
     have hz0 : ¬ (l.length : Int) = 0 := by omega
     have hz : ((l.length : Int) == 0) = false := beq_eq_false_iff_ne.2 hz0
     clear hB he hln hl hl0
     go_upto_region 9 with fail
     clear c2 ce
     have HBl := H20.out.blk.whole
     have HK9 := Yq (H20.out.kept.kept (Nat.le_refl _))
     have HBr := HK9.out.blk Hge.out.1 (by have := Hge.out; simp; omega)
     go_wp2_with (first
      | (refine wpList_load_seg rfl 71 _ rfl _ _ rfl _ _ HBl Tryz.underlying71 rfl infoEn ?_)
      | (refine wpList_store_all rfl 71 _ _ rfl gr [.string (toB x.text), .slice ua l.length uc, .int .i64 x.line, .int .i64 x.col] rfl rfl zEn HBr infoEn rfl ?_ ?_; (· intro u hu; simp only [List.mem_cons, List.not_mem_nil, or_false] at hu; rcases hu with rfl | rfl | rfl | rfl <;> rfl); (intro w30 hB30 hgr30)))
     have hend : R = (⟨x.text, l, x.line, x.col⟩, s3) := by rw [HEnd2.out]; rw [Hst.out]
     rw [hend]
     have hne8 : (4 : Nat) ≠ 3 := by decide
     have hown := H20.out.rows.own (enRow (.slice ua l.length uc) l) (by simp)
     have hown2 := hown.kept hgr30 (.inr (fun e => by have h1 := (hown.lt gr e).1; have h2 := Hge.out.1.lt; omega))
     refine bodyPost_ret (v := .agg [.string (toB x.text), .slice ua l.length uc, .int .i64 x.line, .int .i64 x.col].toArray) ?_ rfl ⟨_, rfl, ⟨_, rfl, FlatV.of_ownsU hown2 HK6.out.size, by show l.length ≤ 10000; have h1 := H20.out.fit.2; have h2 := Hsm.out.few; omega⟩, (Par.wrote H20.out.env H20.out.par HBr hne8 hgr30 Hge.out.2.2.2.2.2).1, ((HK6.out.trans2 HK9.out Hge.out.2.1).then_new hgr30 Hge.out.2.2.1)⟩
     exact results_blk (p := 2) (ty := 71) rfl _ _ gr [.string (toB x.text), .slice ua l.length uc, .int .i64 x.line, .int .i64 x.col] rfl hB30 _ Tryz.underlying71 rfl infoEn
  ·have Hnone := Yq (Hme.out rfl)
   obtain ⟨n, rfl⟩ : ∃ n, gk = n + 1 := ⟨gk - 1, by have := HFp.out (Hmg.out Hnone.out).1; omega⟩
   have HV2 := Yq (HVs.out n rfl)
   simp only [if_true] at HV2
   have HF2 := Yq (HF.out (Hmg.out Hnone.out).1)
   have Hmp := Yq (Hmg.out Hnone.out).2
   clear HVs HV1 HVn HF Hme HV0 HV00 HFp HEnd HV HR Hpo
   go_wp2_with fail
   refine HM.out.mono ?_
   rintro e w20 ⟨rfl, hp20, hk20⟩
   have H20 := Yq (HA.out.call hp20 hk20 (Hmg.out))
   clear hp20 hk20
   have Hvg := Yq (Sx.value_go ts s3)
   have H20d := Yq (H20.out.below (Below.refl _ _).drew)
   have HVl := Yq (value_any A p v ts s3 w20.drew H20d.out.env H20d.out.par)
   generalize Sx.value ts s3 = X at *
   obtain ⟨y, s4⟩ := X
   simp only at HV2 Hvg
   unfold ValPost at HVl
   simp only at HVl
   go_wp2_with fail
   refine wp_region_G 7 (fun _ => True) (fun w' => w'.cell? ⟨ge, 1, none⟩ = some u) (by kernel_rfl) trivial (H20d.out.blk.cell (o := 1) rfl) (fun _ => ?_)
   refine wpAnyG_take0 (i := 0) (v := .pointer (some ⟨ge, 1, none⟩)) rfl (by kernel_rfl) (fun _ _ _ h => h) (.inl ⟨by rfl, fun w hw => by go_simp⟩) (InvG.mk trivial (H20d.out.blk.cell (o := 1) rfl)) ?_
   refine fSxEnumA8_46 ?_
   refine wpAnyG_take (i := 1) (v := u) rfl (by kernel_rfl) (fun _ _ _ h => h) (.inl ⟨by rfl, fun w hw => by have hc := hw.2; clear hw; go_simp⟩) (InvG.mk trivial (H20d.out.blk.cell (o := 1) rfl)) ?_
   refine fSxEnumA8_46 ?_
   refine wpAnyG_take0 (i := 2) (v := .pointer (some ⟨p, 0, none⟩)) rfl (by kernel_rfl) (fun _ _ _ h => h) (.inl ⟨by rfl, fun w hw => by go_simp⟩) (InvG.mk trivial (H20d.out.blk.cell (o := 1) rfl)) ?_
   refine fSxEnumA8_46 ?_
   refine wpAnyG_ready (rs := [3]) (by kernel_rfl) (by simp) ?_
   refine AllReadyG.plain rfl rfl (fun K hK => ?_) AllReadyG.nil
   go_simp
   refine HVl.out.mono ?_
   rintro e w21 ⟨rfl, hp21, hk21⟩
   have H21 := Yq (H20d.out.call hp21 hk21 (Hvg.out.mono (by omega)))
   have Hfit : Hid (Sx.Fit ts (l.length + 1) s4) := Yq (H20d.out.fit.push Hnone.out (by obtain ⟨_, _, _, _, h3⟩ := H20d.out.par; exact h3) Hvg.out)
   clear hp21 hk21
   refine hK.out _ _ (InvG.mk trivial (H21.out.blk.cell (o := 1) rfl)) (fun _ => ?_)
   clear hK
   refine fSxEnumA8_46 ?_
   refine wpAnyG_ready (rs := [4]) (by kernel_rfl) (by simp) ?_
   refine AllReadyG.plain rfl rfl (fun K hK => ?_) AllReadyG.nil
   refine wp_buildSlice1 69 116 _ rfl (vC y) (.agg (vC y).toArray) (by go_simp) Tryz.underlying69 info2Vl (show 0 < 4 by decide) (show 4 ≤ 1000 by decide) rfl ?_
   refine hK.out _ _ (InvG.mk trivial ((H21.out.below ((Below.refl _ _).alloc (Nat.le_refl _) _)).blk.cell (o := 1) rfl)) (fun _ => ?_)
   clear hK
   refine fSxEnumA8_46 ?_
   refine wpAnyG_ready (rs := [5]) (by kernel_rfl) (by simp) ?_
   refine AllReadyG.plain rfl rfl (fun K hK => ?_) AllReadyG.nil
   refine wp_append_own1 T_Vl _ _ rfl (vC y) (by go_simp) (show w21.ownsRow w6.heap.size 116 4 u l.length (l.flatMap vC) from H21.out.rows.own (enRow u l) (by simp)) (by go_simp) rfl (one_vC y) (by have h1 := H21.out.fit.2; have h2 := Hsm.out.few; omega) H21.out.lts.2.2 ?_
   intro u' w8 ho8 hg8 hat8 hone8
   have hown8 := H21.out.rows.own (enRow u l) (by simp)
   have HB8 : Blk w8 ge [.string (toB x.text), u, .int .i64 x.line, .int .i64 x.col] := H21.out.blk.grown hg8 (fun e => by have h1 := (hown8.lt ge e.symm).1; have := H21.out.lts; omega)
   clear hown8
   refine hK.out _ _ (InvG.mk trivial (HB8.cell (o := 1) rfl)) (fun _ => ?_)
   clear hK
   refine fSxEnumA8_46 ?_
   refine wpAnyG_take0 (i := 6) (v := .pointer (some ⟨ge, 1, none⟩)) rfl (by kernel_rfl) (fun _ _ _ h => h) (.inl ⟨by rfl, fun w hw => by go_simp⟩) (InvG.mk trivial (HB8.cell (o := 1) rfl)) ?_
   refine fSxEnumA8_46 ?_
   refine wpAnyG_ready (rs := [7]) (by kernel_rfl) (by simp) ?_
   refine AllReadyG.plain rfl rfl (fun K hK => ?_) AllReadyG.nil
   refine wp_store_lay 69 _ _ rfl ge 1 u' [u'] [.string (toB x.text), u, .int .i64 x.line, .int .i64 x.col] (by go_simp) (by go_simp) (one_cells hone8) HB8 info_sl1 (show 1 + 1 ≤ 4 by decide) (one1 hone8) ?_
   intro w9 hB9 hg9 hs9
   have H9 := Yq (H21.out.push Hfit.out ho8 hg8 hat8 hB9 hg9)
   clear ho8 hg8 hat8 hone8 HB8 hB9 hg9 hs9
   refine hK.out _ _ (InvG.past trivial (by kernel_rfl)) (fun _ => ?_)
   clear hK
   refine fSxEnumA8_46 ?_
   refine wpAnyG_done (by kernel_rfl) ?_ _
   go_wp2_with fail
   go_roundg n
   case measure => omega
   case rel =>
    refine ⟨_, _, _, H9, HV2, Yq (fun he3 => ?_)⟩
    have h1 := (Hvg.out he3).2
    have h2 := HF2.out; have h3 := Hmp.out
    omega
end Go.Proofs.YtpcfdngnmigkfaaGreatDoor
