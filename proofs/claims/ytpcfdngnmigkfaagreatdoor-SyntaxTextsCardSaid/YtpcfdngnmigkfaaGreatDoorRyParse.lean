/- The reference redlineref08, walked: Parse, given what file answers. -/
import Derived.Test.YtpcfdngnmigkfaaGreatDoorRyRes2
set_option linter.unusedVariables false
set_option linter.unusedSimpArgs false
namespace Go.Proofs.YtpcfdngnmigkfaaGreatDoor
open Go.RowKit
theorem fRyParseA7_40 {P : Program} {M : Region.Mode} {O : Array Oper} {Q : Exit → Act → World → Prop} {Y Z : World → Prop} {f F : Nat} {a b c e g i j : Bool} {k l m n o p q r s t u v x y z a0 a1 a2 a3 a4 a5 a6 a7 a8 a9 aA aB aC aD aE aF aG aH aI aJ aK aL aM aN aO : Value} {d} {w : World} (h : wpAnyG P M O Q Y Z f F #[a,b,c,e,g,i,j] ⟨#[k,l,m,n,o,p,q,r,s,t,u,v,x,y,z,a0,a1,a2,a3,a4,a5,a6,a7,a8,a9,aA,aB,aC,aD,aE,aF,aG,aH,aI,aJ,aK,aL,aM,aN,aO],d⟩ w) : wpAnyG P M O Q Y Z f F #[a,b,c,e,g,i,j] ⟨#[k,l,m,n,o,p,q,r,s,t,u,v,x,y,z,a0,a1,a2,a3,a4,a5,a6,a7,a8,a9,aA,aB,aC,aD,aE,aF,aG,aH,aI,aJ,aK,aL,aM,aN,aO],d⟩ w := h
theorem fRyParseA19_40 {P : Program} {M : Region.Mode} {O : Array Oper} {Q : Exit → Act → World → Prop} {Y Z : World → Prop} {f F : Nat} {a b c e g i j k l m n o p q r s t u v : Bool} {x y z a0 a1 a2 a3 a4 a5 a6 a7 a8 a9 aA aB aC aD aE aF aG aH aI aJ aK aL aM aN aO aP aQ aR aS aT aU aV aW aX aY aZ b0 : Value} {d} {w : World} (h : wpAnyG P M O Q Y Z f F #[a,b,c,e,g,i,j,k,l,m,n,o,p,q,r,s,t,u,v] ⟨#[x,y,z,a0,a1,a2,a3,a4,a5,a6,a7,a8,a9,aA,aB,aC,aD,aE,aF,aG,aH,aI,aJ,aK,aL,aM,aN,aO,aP,aQ,aR,aS,aT,aU,aV,aW,aX,aY,aZ,b0],d⟩ w) : wpAnyG P M O Q Y Z f F #[a,b,c,e,g,i,j,k,l,m,n,o,p,q,r,s,t,u,v] ⟨#[x,y,z,a0,a1,a2,a3,a4,a5,a6,a7,a8,a9,aA,aB,aC,aD,aE,aF,aG,aH,aI,aJ,aK,aL,aM,aN,aO,aP,aQ,aR,aS,aT,aU,aV,aW,aX,aY,aZ,b0],d⟩ w := h
def RFil (w : World) (r : Sx.Fil × Sy.Stop) (e : Ending) (w' : World) : Prop :=
 ∃ cs, e = .returned (.tuple #[.agg cs.toArray, .agg (stC r.2).toArray]) ∧ cs.length = 3 ∧ (∀ u ∈ cs, u.oneCell' = true) ∧ (r.2.2 = 0 → FilR (fragU w' w.heap.size []) r.1 cs) ∧ Below w.heap.size w w'
def FileSaid : Prop := ∀ (v : Value) (ts : List Lx.Tok) (w : World), Small ts → FlatV tC (frag w) v ts → Calls Tryz.prog 34 #[v] w (RFil w (Sy.fileR ts))
def RPar (w : World) (r : Sx.Fil × Nat × Nat × Nat) (e : Ending) (w' : World) : Prop :=
 ∃ cs, e = .returned (.tuple #[.agg cs.toArray, .int .i64 r.2.1, .int .i64 r.2.2.1, .int .i64 r.2.2.2]) ∧ FilR (fragU w' w.heap.size []) r.1 cs ∧ Below w.heap.size w w'
theorem rfil_build0 (w : World) : (Instr.build 34 #[]).run Tryz.prog w = .ok (.agg #[.string ⟨#[]⟩, .slice none 0 0, .slice none 0 0]) w := by kernel_rfl
theorem sizeRTk7 (w : World) : (Go.sizeOf (Tryz.prog.elem 52)).run Tryz.prog w = .ok 5 w := by kernel_rfl
theorem zFl_filR (h : Frag) : FilR h Sy.zFil zFl := ⟨.slice none 0 0, .slice none 0 0, [], [], rfl, ⟨⟨⟨none, 0, rfl, Nat.le_refl _, Nat.zero_le _, fun _ => rfl, HRow.nil _ _, fun _ h => by cases h⟩, by simp⟩, ⟨⟨none, 0, rfl, Nat.le_refl _, Nat.zero_le _, fun _ => rfl, HRow.nil _ _, fun _ h => by cases h⟩, by simp⟩⟩, (by rw [Sy.zFil]; rw [MsgsR]), (by rw [Sy.zFil]; rw [EnsR])⟩
theorem patch_whole2 (cs : List Value) {z : List Value} (h : cs.length = 3) (hz : z.length = 3 := by rfl) : patch z 0 cs = cs := patch_whole' cs z (by rw [h, hz])
theorem one_zFl : ∀ u ∈ zFl, u.oneCell' = true := by intro u hu; simp only [zFl, List.mem_cons, List.not_mem_nil, or_false] at hu; rcases hu with rfl | rfl | rfl <;> rfl
section
variable {P : Program} {fn : Func} {tmps : Array Value} {w : World} {q u v x : Tmp} {T2 : TypeId} {g2 : Nat} {c2 : List Value} {y1 y2 y3 : Value}
theorem results_cttt (h : fn.results = #[.cell q T2, .tmp u, .tmp v, .tmp x]) (h4 : tmps.getD q undef = .pointer (some ⟨g2, 0, none⟩)) (h1 : tmps.getD u undef = y1) (h2 : tmps.getD v undef = y2) (h3 : tmps.getD x undef = y3) (r2 : (loadVar T2 ⟨g2, 0, none⟩).run P w = .ok (.agg c2.toArray) w) : (results fn tmps).run P w = .ok (.tuple #[.agg c2.toArray, y1, y2, y3]) w := by
 have a1 : tmps[u]?.getD undef = y1 := by simpa using h1
 have a2 : tmps[v]?.getD undef = y2 := by simpa using h2
 have a3 : tmps[x]?.getD undef = y3 := by simpa using h3
 have a4 : tmps[q]?.getD undef = .pointer (some ⟨g2, 0, none⟩) := by simpa using h4
 simp [results, h, a1, a2, a3, a4, asAddr, r2, Sem.run_bind, Result.andThen]
end
set_option maxHeartbeats 4000000 in
set_option maxRecDepth 100000 in
theorem rparse_any (HF : FileSaid) (v : Value) (ts : List Lx.Tok) (hS : Small ts) (w : World) (h : FlatV tC (frag w) v ts) :
  Calls Tryz.prog 13 #[v] w (RPar w (Sy.parseR ts)) := by
 obtain ⟨ad, cap, rfl, _, _, _⟩ := h.len
 obtain ⟨R, hR⟩ : ∃ R, R = Sy.parseR ts := ⟨_, rfl⟩
 rw [← hR]
 unfold Sy.parseR at hR
 have HTk := Yq h
 have HF1 := Yq (fun w0 (hb : Below w.heap.size w w0) => HF (.slice ad ts.length cap) ts w0 hS (h.mono (below_le hb)))
 unfold RFil at HF1
 have Hfew := Yq hS.few
 obtain ⟨m, hm0⟩ : ∃ m, m = ts.length := ⟨_, rfl⟩
 have HM := Yq hm0.symm
 rw [← hm0] at HF1 HTk Hfew ⊢
 generalize Sy.fileR ts = A at *
 obtain ⟨f, s⟩ := A
 dsimp only at HF1 hR
 have HR := Yq hR
 have hbf := rfil_build0
 have HO0 := Own.nil w
 have HO := OwnR.start HO0 [] (fun r hr => by cases hr)
 clear hm0 hR h hS HF HO0
 go_enter Tryz.func13, Tryz.ntmps13
 go_upto_region 1 with (first
  | (refine wpList_alloc_ownR rfl 34 rfl zFl zeroRFl HO ?_; clear HO; intro w1 g1 HO)
  | fail)
 go_upto_region 2 with (first
  | (go_at_call 34; (refine (HF1.out _ HO.below).mono ?_); rintro e w3 ⟨cs, rfl, hcl, hone, hfl, hb⟩; have hfr := HO.fresh hb; replace HO := (HO.call hb).read (RD' := fun h => s.2 = 0 → FilR h f cs) (fun _ _ hle q e => (q e).mono hle) (fun _ e => (hfl e).mono hfr); have hsz : (Tryz.prog.info? 34).map (·.size) = some cs.length := (by rw [hcl]; exact infoRFl); clear hb hfr hfl)
  | (refine wpList_alloc_ownR rfl 34 rfl zFl zeroRFl HO ?_; clear HO; intro w1 gF HO)
  | (refine wpList_alloc_ownR rfl 100 rfl zSt zeroStp HO ?_; clear HO; intro w1 gS HO)
  | (refine wpList_store_ownR 1 rfl 34 _ _ rfl _ 0 cs rfl rfl HO rfl hsz (by rw [hcl]; decide) hone (patch_whole2 cs hcl) ?_; clear HO; intro w5 HO)
  | (refine wpList_store_ownR 0 rfl 100 _ _ rfl _ 0 (stC s) rfl rfl HO rfl infoStp (Nat.le_refl _) (one_stC _) rfl ?_; clear HO; intro w6 HO)
  | fail)
 by_cases h0 : s.2 = 0
 ·have e1 : w6.cell? ⟨_, 1, none⟩ = some (.int .i64 0) := ((HO.own.at 0 rfl).cell (o := 1) rfl).trans (by rw [show ((s.2 : Nat) : Int) = 0 by omega])
  have HRe : Hid (R = (f, 0, 0, 0)) := Yq (by rw [HR.out, if_pos h0])
  clear HR
  go_wp2_with (first
  | (refine wpList_load_ownR 1 rfl 34 _ rfl _ rfl HO rfl _ Tryz.underlying34 rfl hsz ?_)
  | (refine wpList_store_ownR 2 rfl 34 _ _ rfl _ 0 cs rfl rfl HO rfl hsz (by rw [hcl]; decide) hone (patch_whole2 cs hcl) ?_; clear HO; intro w8 HO)
  | fail)
  rw [HRe.out]
  refine bodyPost_ret (v := .tuple #[.agg (cs).toArray, .int .i64 0, .int .i64 0, .int .i64 0]) ?_ rfl ⟨cs, rfl, HO.done h0, HO.below⟩
  exact results_cttt rfl (by kernel_rfl) (by kernel_rfl) (by kernel_rfl) (by kernel_rfl) (run_load_blk (HO.own.at 2 rfl) _ Tryz.underlying34 rfl hsz)
 ·obtain ⟨z, hz⟩ : ∃ z, z = (s.2 : Int) := ⟨_, rfl⟩
  have e1 : w6.cell? ⟨gS, 1, none⟩ = some (.int .i64 z) := ((HO.own.at 0 rfl).cell (o := 1) rfl).trans (by rw [hz])
  have q1 : (z == 0) = false := by rw [beq_eq_false_iff_ne]; omega
  have e0 : w6.cell? ⟨gS, 0, none⟩ = some (.int .i64 s.1) := (HO.own.at 0 rfl).cell (o := 0) rfl
  have hS0 : Blk w6.drew gS (stC s) := HO.drew.own.at 0 rfl
  clear hz
  by_cases hlt : s.1 < ts.length
  ·have hjm : decide ((m : Int) ≤ (s.1 : Int)) = false := decide_eq_false (by rw [HM.out] at hlt; omega)
   have hjm2 : ¬ (m : Int) ≤ (s.1 : Int) := by rw [HM.out] at hlt; omega
   obtain ⟨b0, o0, hbl0, hidx0, hcell0⟩ := FlatV.at (n := m) (cap := cap) (a := ad) HTk.out tC_len (by decide) (i := s.1) hlt Tryz.underlying52 sizeRTk7
   have HRe : Hid (R = (Sy.zFil, s.2, ts[s.1].line, ts[s.1].col)) := Yq (by rw [HR.out, if_neg h0]; simp only [List.getElem?_eq_getElem hlt, Option.getD_some])
   have hrw : w.rangeAt b0 o0 (tC ts[s.1]) := hcell0
   generalize ts[s.1] = x at *
   have hr0 : w6.drew.rangeAt b0 o0 (tC x) := range_below hrw HO.drew.below hbl0
   clear HR hcell0 hlt
   go_upto_region 6 with fail
   clear e0 e1
   refine wp_region_G 15 (fun w' => Blk w' gS (stC s) ∧ w'.rangeAt b0 o0 (tC x)) (fun _ => True) (by kernel_rfl) ⟨hS0, hr0⟩ trivial (fun _ => ?_)
   refine fRyParseA19_40 ?_
   refine wpAnyG_take0 (i := 0) (v := .agg #[.string ⟨#[]⟩, .slice none 0 0, .slice none 0 0]) rfl (by kernel_rfl) (fun _ _ _ h => h) (.inl ⟨by rfl, fun w hw => by go_simp⟩) (InvG.mk ⟨hS0, hr0⟩ trivial) ?_
   refine fRyParseA19_40 ?_
   refine wpAnyG_take0 (i := 1) (v := .pointer (some ⟨gS, 1, none⟩)) rfl (by kernel_rfl) (fun _ _ _ h => h) (.inl ⟨by rfl, fun w hw => by go_simp⟩) (InvG.mk ⟨hS0, hr0⟩ trivial) ?_
   refine fRyParseA19_40 ?_
   refine wpAnyG_take0 (i := 2) (v := .int .i64 s.2) rfl (by kernel_rfl) (fun _ _ _ h => h) (.inl ⟨by rfl, fun w hw => by have c0 := hw.1.cell (o := 1) rfl; clear hw; go_simp⟩) (InvG.mk ⟨hS0, hr0⟩ trivial) ?_
   refine fRyParseA19_40 ?_
   refine wpAnyG_take0 (i := 3) (v := .slice ad m cap) rfl (by kernel_rfl) (fun _ _ _ h => h) (.inl ⟨by rfl, fun w hw => by go_simp⟩) (InvG.mk ⟨hS0, hr0⟩ trivial) ?_
   refine fRyParseA19_40 ?_
   refine wpAnyG_take0 (i := 4) (v := .pointer (some ⟨gS, 0, none⟩)) rfl (by kernel_rfl) (fun _ _ _ h => h) (.inl ⟨by rfl, fun w hw => by go_simp⟩) (InvG.mk ⟨hS0, hr0⟩ trivial) ?_
   refine fRyParseA19_40 ?_
   refine wpAnyG_take0 (i := 5) (v := .int .i64 s.1) rfl (by kernel_rfl) (fun _ _ _ h => h) (.inl ⟨by rfl, fun w hw => by have c0 := hw.1.cell (o := 0) rfl; clear hw; go_simp⟩) (InvG.mk ⟨hS0, hr0⟩ trivial) ?_
   refine fRyParseA19_40 ?_
   refine wpAnyG_take0 (i := 6) (v := .pointer (some ⟨b0, o0, none⟩)) rfl (by kernel_rfl) (fun _ _ _ h => h) (.inl ⟨by rfl, fun w hw => by go_simp⟩) (InvG.mk ⟨hS0, hr0⟩ trivial) ?_
   refine fRyParseA19_40 ?_
   refine wpAnyG_take0 (i := 7) (v := .pointer (some ⟨b0, o0 + 3, none⟩)) rfl (by kernel_rfl) (fun _ _ _ h => h) (.inl ⟨by rfl, fun w hw => by go_simp⟩) (InvG.mk ⟨hS0, hr0⟩ trivial) ?_
   refine fRyParseA19_40 ?_
   refine wpAnyG_take0 (i := 8) (v := .int .i64 x.line) rfl (by kernel_rfl) (fun _ _ _ h => h) (.inl ⟨by rfl, fun w hw => by have c0 : w.cell? ⟨b0, o0 + 3, none⟩ = some (.int .i64 x.line) := hw.2 3 _ rfl; clear hw; go_simp⟩) (InvG.mk ⟨hS0, hr0⟩ trivial) ?_
   refine fRyParseA19_40 ?_
   refine wpAnyG_take0 (i := 9) (v := .slice ad m cap) rfl (by kernel_rfl) (fun _ _ _ h => h) (.inl ⟨by rfl, fun w hw => by go_simp⟩) (InvG.mk ⟨hS0, hr0⟩ trivial) ?_
   refine fRyParseA19_40 ?_
   refine wpAnyG_take0 (i := 10) (v := .pointer (some ⟨gS, 0, none⟩)) rfl (by kernel_rfl) (fun _ _ _ h => h) (.inl ⟨by rfl, fun w hw => by go_simp⟩) (InvG.mk ⟨hS0, hr0⟩ trivial) ?_
   refine fRyParseA19_40 ?_
   refine wpAnyG_take0 (i := 11) (v := .int .i64 s.1) rfl (by kernel_rfl) (fun _ _ _ h => h) (.inl ⟨by rfl, fun w hw => by have c0 := hw.1.cell (o := 0) rfl; clear hw; go_simp⟩) (InvG.mk ⟨hS0, hr0⟩ trivial) ?_
   refine fRyParseA19_40 ?_
   refine wpAnyG_take0 (i := 12) (v := .pointer (some ⟨b0, o0, none⟩)) rfl (by kernel_rfl) (fun _ _ _ h => h) (.inl ⟨by rfl, fun w hw => by go_simp⟩) (InvG.mk ⟨hS0, hr0⟩ trivial) ?_
   refine fRyParseA19_40 ?_
   refine wpAnyG_take0 (i := 13) (v := .pointer (some ⟨b0, o0 + 4, none⟩)) rfl (by kernel_rfl) (fun _ _ _ h => h) (.inl ⟨by rfl, fun w hw => by go_simp⟩) (InvG.mk ⟨hS0, hr0⟩ trivial) ?_
   refine fRyParseA19_40 ?_
   refine wpAnyG_take0 (i := 14) (v := .int .i64 x.col) rfl (by kernel_rfl) (fun _ _ _ h => h) (.inl ⟨by rfl, fun w hw => by have c0 : w.cell? ⟨b0, o0 + 4, none⟩ = some (.int .i64 x.col) := hw.2 4 _ rfl; clear hw; go_simp⟩) (InvG.mk ⟨hS0, hr0⟩ trivial) ?_
   refine fRyParseA19_40 ?_
   refine wpAnyG_ready (rs := [15]) (by kernel_rfl) (by simp) ?_
   refine AllReadyG.plain rfl rfl (fun K hK => ?_) AllReadyG.nil
   have HOd := HO.drew
   have hBj : Blk w6.drew g1 zFl := HOd.own.at 2 rfl
   refine wp_store_blk 34 _ _ rfl g1 0 (.agg zFl.toArray) zFl zFl (by kernel_rfl) (by kernel_rfl) rfl hBj infoRFl (Nat.le_refl _) one_zFl ?_
   replace HO := HOd.set (ds := patch zFl 0 zFl) 2 rfl (hBj.set _) (setRow_grown _)
   clear HOd hBj
   have hS1 : Blk (w6.drew.setRow g1 (patch zFl 0 zFl).toArray) gS (stC s) := HO.own.at 0 rfl
   have hr1 : (w6.drew.setRow g1 (patch zFl 0 zFl).toArray).rangeAt b0 o0 (tC x) := range_below hrw HO.below hbl0
   refine hK.out _ _ (InvG.past ⟨hS1, hr1⟩ (by kernel_rfl)) (fun _ => ?_)
   clear hK
   refine fRyParseA19_40 ?_
   refine wpAnyG_take0 (i := 16) (v := .int .i64 s.2) rfl (by kernel_rfl) (fun _ _ _ h => h) (.inl ⟨by rfl, fun w hw => by go_simp⟩) (InvG.past ⟨hS1, hr1⟩ (by kernel_rfl)) ?_
   refine fRyParseA19_40 ?_
   refine wpAnyG_take0 (i := 17) (v := .int .i64 x.line) rfl (by kernel_rfl) (fun _ _ _ h => h) (.inl ⟨by rfl, fun w hw => by go_simp⟩) (InvG.past ⟨hS1, hr1⟩ (by kernel_rfl)) ?_
   refine fRyParseA19_40 ?_
   refine wpAnyG_take0 (i := 18) (v := .int .i64 x.col) rfl (by kernel_rfl) (fun _ _ _ h => h) (.inl ⟨by rfl, fun w hw => by go_simp⟩) (InvG.past ⟨hS1, hr1⟩ (by kernel_rfl)) ?_
   refine fRyParseA19_40 ?_
   refine wpAnyG_done (by kernel_rfl) ?_ _
   go_wp2_with fail
   rw [HRe.out]
   refine bodyPost_ret (v := .tuple #[.agg (zFl).toArray, .int .i64 s.2, .int .i64 x.line, .int .i64 x.col]) ?_ rfl ⟨zFl, rfl, zFl_filR _, HO.below⟩
   exact results_cttt rfl (by kernel_rfl) (by kernel_rfl) (by kernel_rfl) (by kernel_rfl) (run_load_blk (HO.own.at 2 rfl) _ Tryz.underlying34 rfl infoRFl)
  ·have hjm : decide ((m : Int) ≤ (s.1 : Int)) = true := decide_eq_true (by rw [HM.out] at hlt; omega)
   have hjm2 : (m : Int) ≤ (s.1 : Int) := by rw [HM.out] at hlt; omega
   have HRe : Hid (R = (Sy.zFil, s.2, 0, 0)) := Yq (by rw [HR.out, if_neg h0]; simp only [List.getElem?_eq_none (Nat.le_of_not_lt hlt), Option.getD_none]; rfl)
   clear HR hlt
   go_upto_region 5 with fail
   clear e0 e1
   refine wp_region_G 3 (fun w' => Blk w' gS (stC s)) (fun _ => True) (by kernel_rfl) hS0 trivial (fun _ => ?_)
   refine fRyParseA7_40 ?_
   refine wpAnyG_take0 (i := 0) (v := .agg #[.string ⟨#[]⟩, .slice none 0 0, .slice none 0 0]) rfl (by kernel_rfl) (fun _ _ _ h => h) (.inl ⟨by rfl, fun w hw => by go_simp⟩) (InvG.mk hS0 trivial) ?_
   refine fRyParseA7_40 ?_
   refine wpAnyG_take0 (i := 1) (v := .pointer (some ⟨gS, 1, none⟩)) rfl (by kernel_rfl) (fun _ _ _ h => h) (.inl ⟨by rfl, fun w hw => by go_simp⟩) (InvG.mk hS0 trivial) ?_
   refine fRyParseA7_40 ?_
   refine wpAnyG_take0 (i := 2) (v := .int .i64 s.2) rfl (by kernel_rfl) (fun _ _ _ h => h) (.inl ⟨by rfl, fun w hw => by have c0 := hw.cell (o := 1) rfl; clear hw; go_simp⟩) (InvG.mk hS0 trivial) ?_
   refine fRyParseA7_40 ?_
   refine wpAnyG_ready (rs := [3]) (by kernel_rfl) (by simp) ?_
   refine AllReadyG.plain rfl rfl (fun K hK => ?_) AllReadyG.nil
   have HOd := HO.drew
   have hBj : Blk w6.drew g1 zFl := HOd.own.at 2 rfl
   refine wp_store_blk 34 _ _ rfl g1 0 (.agg zFl.toArray) zFl zFl (by kernel_rfl) (by kernel_rfl) rfl hBj infoRFl (Nat.le_refl _) one_zFl ?_
   replace HO := HOd.set (ds := patch zFl 0 zFl) 2 rfl (hBj.set _) (setRow_grown _)
   clear HOd hBj
   have hS1 : Blk (w6.drew.setRow g1 (patch zFl 0 zFl).toArray) gS (stC s) := HO.own.at 0 rfl
   refine hK.out _ _ (InvG.past hS1 (by kernel_rfl)) (fun _ => ?_)
   clear hK
   refine fRyParseA7_40 ?_
   refine wpAnyG_take0 (i := 4) (v := .int .i64 s.2) rfl (by kernel_rfl) (fun _ _ _ h => h) (.inl ⟨by rfl, fun w hw => by go_simp⟩) (InvG.past hS1 (by kernel_rfl)) ?_
   refine fRyParseA7_40 ?_
   refine wpAnyG_take0 (i := 5) (v := .int .i64 0) rfl (by kernel_rfl) (fun _ _ _ h => h) (.inl ⟨by rfl, fun w hw => by go_simp⟩) (InvG.past hS1 (by kernel_rfl)) ?_
   refine fRyParseA7_40 ?_
   refine wpAnyG_take0 (i := 6) (v := .int .i64 0) rfl (by kernel_rfl) (fun _ _ _ h => h) (.inl ⟨by rfl, fun w hw => by go_simp⟩) (InvG.past hS1 (by kernel_rfl)) ?_
   refine fRyParseA7_40 ?_
   refine wpAnyG_done (by kernel_rfl) ?_ _
   go_wp2_with fail
   rw [HRe.out]
   refine bodyPost_ret (v := .tuple #[.agg (zFl).toArray, .int .i64 s.2, .int .i64 0, .int .i64 0]) ?_ rfl ⟨zFl, rfl, zFl_filR _, HO.below⟩
   exact results_cttt rfl (by kernel_rfl) (by kernel_rfl) (by kernel_rfl) (by kernel_rfl) (run_load_blk (HO.own.at 2 rfl) _ Tryz.underlying34 rfl infoRFl)
end Go.Proofs.YtpcfdngnmigkfaaGreatDoor
