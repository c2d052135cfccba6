/- SyntaxTexts: the file of every text, or what is wrong, and where: the program's answer and the document's are the same. -/
import Derived.Test.YtpcfdngnmigkfaaGreatDoorRyFile
import Derived.Test.YtpcfdngnmigkfaaGreatDoorRyOf
import Derived.Test.YtpcfdngnmigkfaaGreatDoorRyEq
import Derived.Test.YtpcfdngnmigkfaaGreatDoorSxNum
import Derived.Test.YtpcfdngnmigkfaaGreatDoorSxAlive
import Derived.Test.YtpcfdngnmigkfaaGreatDoorGroupJ
set_option linter.unusedVariables false
set_option linter.unusedSimpArgs false
namespace Go.Proofs.YtpcfdngnmigkfaaGreatDoor
open Go.RowKit
theorem fSyntaxTextsLawA12_37 {P : Program} {M : Region.Mode} {O : Array Oper} {Q : Exit → Act → World → Prop} {Y Z : World → Prop} {f F : Nat} {a b c e g i j k l m n o : Bool} {p q r s t u v x y z a0 a1 a2 a3 a4 a5 a6 a7 a8 a9 aA aB aC aD aE aF aG aH aI aJ aK aL aM aN aO aP aQ : Value} {d} {w : World} (h : wpAnyG P M O Q Y Z f F #[a,b,c,e,g,i,j,k,l,m,n,o] ⟨#[p,q,r,s,t,u,v,x,y,z,a0,a1,a2,a3,a4,a5,a6,a7,a8,a9,aA,aB,aC,aD,aE,aF,aG,aH,aI,aJ,aK,aL,aM,aN,aO,aP,aQ],d⟩ w) : wpAnyG P M O Q Y Z f F #[a,b,c,e,g,i,j,k,l,m,n,o] ⟨#[p,q,r,s,t,u,v,x,y,z,a0,a1,a2,a3,a4,a5,a6,a7,a8,a9,aA,aB,aC,aD,aE,aF,aG,aH,aI,aJ,aK,aL,aM,aN,aO,aP,aQ],d⟩ w := h
theorem split_badm {l : Lx.Bs} {n : Nat} {p : Nat × Nat} (h : Lx.split l = .bad n p) : n = 9 ∨ n = 1 ∨ n = 3 := by
 unfold Lx.split at h
 split at h
 ·cases h; simp
 ·exact splitN_badn _ _ _ _ _ (Nat.le_refl _) h
theorem ofR_file (o : Lx.Out) : ofR o = ((fileOf o).1, Sy.numsOf (fileOf o).2) := by
 cases o with
 | bad n q => rfl
 | ok ts => exact Sy.parse_agree ts
theorem file_num {l : Lx.Bs} {x : Nat × Nat × Nat} (h : (fileOf (Lx.split l)).2 = some x) : (1 ≤ x.1 ∧ x.1 ≤ 18) ∧ (fileOf (Lx.split l)).1 = Sy.zFil := by
 cases ho : Lx.split l with
 | bad n q =>
  rw [ho] at h
  cases h
  exact ⟨by rcases split_badm ho with e | e | e <;> (dsimp only; omega), rfl⟩
 | ok ts =>
  rw [ho] at h
  obtain ⟨h1, h2⟩ := Sx.parse_num ts h
  exact ⟨by rcases h1 with e | e <;> omega, h2⟩
def FaultOK (ev : Value) (n p q : Nat) (w : World) : Prop := ∀ w0, Below w.heap.size w w0 → Calls Tryz.prog 7 #[ev, .int .i64 n, .int .i64 p, .int .i64 q] w0 fun e w' => e = .returned (.bool true) ∧ Below w0.heap.size w0 w'
theorem syn_any (A : Nat → Addr) (s : ByteArray) (w : World) (hne : NE A w) (hV : VarsD A w) (hE : ETy w) (hm : s.size ≤ maxLen) (f : Sx.Fil) (n p q : Nat) (hX : ((fileOf (Lx.split s.data.toList)).1, Sy.numsOf (fileOf (Lx.split s.data.toList)).2) = (f, n, p, q)) :
  Calls Tryz.prog 5 #[.string s] w fun e w' => ∃ cs ev, e = .returned (.tuple #[.agg cs.toArray, ev]) ∧ FilR (fragU w' w.heap.size []) f cs ∧ Below w.heap.size w w' ∧ FaultOK ev n p q w' := by
 refine (text_of_any A s w hV hm).mono (fun e w' h => ?_)
 have hN := fun x => file_num (l := s.data.toList) (x := x)
 generalize fileOf (Lx.split s.data.toList) = X at *
 obtain ⟨g, er⟩ := X
 unfold ParsePost at h
 obtain ⟨hb, h⟩ := h
 cases er with
 | none =>
  obtain ⟨cs, he, hf⟩ := h
  obtain ⟨rfl, h2⟩ := Prod.mk.inj hX
  cases h2
  exact ⟨cs, _, he, hf, hb, fun w0 _ => fault_nil w0⟩
 | some x =>
  obtain ⟨gf, he, hB⟩ := h
  obtain ⟨⟨h1, h2⟩, h3⟩ := hN x rfl
  obtain ⟨rfl, h4⟩ := Prod.mk.inj hX
  dsimp only at h3
  cases h4
  refine ⟨zFl, _, he, by rw [h3]; exact zFl_filR _, hb, fun w0 hb0 => ?_⟩
  have hb2 := hb.trans (hb0.mono hb.size)
  dsimp only at h1 h2 hB
  have h5 := fault_at A w0 (hne.keep hb2) (hE.below hb2) gf (n - 1) p q (by omega) (hB.below hb0 hB.lt)
  rw [show n - 1 + 1 = n by omega] at h5
  exact h5
set_option maxHeartbeats 8000000 in
set_option maxRecDepth 100000 in
theorem syntaxTexts_main (A : Nat → Addr) (s : ByteArray) (w : World) (hne : NE A w) (hVD : VarsD A w) (hE : ETy w) (hm : s.size ≤ maxLen) :
  Calls Tryz.prog 3 #[.string s] w fun e w' => e = .returned (.bool true) ∧ Below w.heap.size w w' := by
 have HA := Yq (alive08 A w hVD)
 by_cases h1 : 5000 < s.size
 ·have hbI : (5000 : Int) < (s.size : Int) := by omega
  unfold maxLen at hm
  clear h1 hne hVD hE
  go_enter Tryz.func3, Tryz.ntmps3
  go_wp2_with fail
  refine HA.out.mono ?_
  rintro e w1 ⟨rfl, hb1⟩
  go_wp2_with fail
  go_ret
  exact ⟨rfl, hb1⟩
 obtain ⟨X, hX⟩ : ∃ X, X = ((fileOf (Lx.split s.data.toList)).1, Sy.numsOf (fileOf (Lx.split s.data.toList)).2) := ⟨_, rfl⟩
 obtain ⟨f, n, p, q⟩ := X
 have HS := Yq (fun w0 (hb : Below w.heap.size w w0) => syn_any A s w0 (hne.keep hb) (hVD.keep hb) (hE.below hb) hm f n p q hX.symm)
 have HR := Yq (fun w0 => rof8_any rfile_any s hm w0)
 rw [ofR_file, ← hX] at HR
 unfold RPar at HR
 dsimp only at HR
 have hI1 : (s.size : Int) ≤ 5000 := by omega
 have hI1' : ¬ (5000 : Int) < (s.size : Int) := by omega
 have HO := OwnR.start (Own.nil w) [] (fun r hr => by cases hr)
 clear h1 hne hVD hE hX hm
 go_enter Tryz.func3, Tryz.ntmps3
 go_wp2_with fail
 refine HA.out.mono ?_
 rintro e w1 ⟨rfl, hb1⟩
 replace HO := HO.call hb1
 clear hb1 HA
 go_upto_region 6 with (first
  | (go_at_call 5; (with_reducible refine (HS.out _ HO.below).mono ?_); rintro e w3 ⟨cs, ev, rfl, hf, hb, hok⟩; have hsA : (Tryz.prog.info? 26).map (·.size) = some cs.length := (by rw [filR_size hf]; exact infoFl); have hcl := Yq (filR_size hf); have hone := filR_one hf; have Hf3 := Yq (hf.mono (fragU_le _ _ _)); have Hb3 := Yq (HO.call hb).below; have Hok := Yq hok; clear hf hb hok HO; have HO := OwnR.start (Own.nil w3) [] (fun r hr => by cases hr))
  | ((with_reducible refine atOp (.alloc 26) ?_); refine wpList_alloc_ownR rfl 26 rfl zFl zeroFl HO ?_; clear HO; intro w4 gA HO)
  | ((with_reducible refine atOp (.store 26 _ _) ?_); refine wpList_store_ownR 0 rfl 26 _ _ rfl _ 0 cs rfl rfl HO rfl hsA (by rw [hcl.out]; decide) hone (patch_whole' _ _ (by rw [hcl.out]; rfl)) ?_; clear HO; intro w5 HO)
  | fail)
 go_upto_region 7 with (first
  | (go_at_call 6; (with_reducible refine (HR.out _).mono ?_); rintro e w6 ⟨ds, rfl, hg, hb⟩; have hsB : (Tryz.prog.info? 34).map (·.size) = some ds.length := (by rw [filR_size hg]; exact infoRFl); have hcl2 := Yq (filR_size hg); have hone2 := filR_one hg; replace HO := HO.with hb (X := fun q => FilR q f ds) (fun _ _ hle q => q.mono hle) hg; clear hg hb)
  | ((with_reducible refine atOp (.alloc 34) ?_); refine wpList_alloc_ownR rfl 34 rfl zFl zeroRFl HO ?_; clear HO; intro w4 gB HO)
  | ((with_reducible refine atOp (.store 34 _ _) ?_); refine wpList_store_ownR 0 rfl 34 _ _ rfl _ 0 ds rfl rfl HO rfl hsB (by rw [hcl2.out]; decide) hone2 (patch_whole' _ _ (by rw [hcl2.out]; rfl)) ?_; clear HO; intro w7 HO)
  | fail)
 have HF := Yq (Hf3.out.mono (below_le HO.below))
 have HG := Yq (HO.rd.2.mono (fragU_le _ _ _))
 have HT := Yq (Hb3.out.trans (HO.below.mono Hb3.out.size))
 have HFa := Yq (fun w0 (hb : Below w7.heap.size w7 w0) => Hok.out w0 (HO.below.trans (hb.mono HO.below.size)))
 have hP : Blk w7.drew gA cs ∧ Blk w7.drew gB ds := ⟨HO.own.drew.at 1 rfl, HO.own.drew.at 0 rfl⟩
 clear HO Hok Hb3 Hf3 HS HR
 refine wp_region_G 99 (fun w' => Blk w' gA cs ∧ Blk w' gB ds) (fun _ => True) (by kernel_rfl) hP trivial (fun _ => ?_)
 refine wpAnyG_take0 (i := 0) (v := ev) rfl (by kernel_rfl) (fun _ _ _ h => h) (.inl ⟨by rfl, fun w hw => by go_simp⟩) (InvG.mk hP trivial) ?_
 refine fSyntaxTextsLawA12_37 ?_
 refine wpAnyG_take0 (i := 1) (v := .int .i64 n) rfl (by kernel_rfl) (fun _ _ _ h => h) (.inl ⟨by rfl, fun w hw => by go_simp⟩) (InvG.mk hP trivial) ?_
 refine fSyntaxTextsLawA12_37 ?_
 refine wpAnyG_take0 (i := 2) (v := .int .i64 p) rfl (by kernel_rfl) (fun _ _ _ h => h) (.inl ⟨by rfl, fun w hw => by go_simp⟩) (InvG.mk hP trivial) ?_
 refine fSyntaxTextsLawA12_37 ?_
 refine wpAnyG_take0 (i := 3) (v := .int .i64 q) rfl (by kernel_rfl) (fun _ _ _ h => h) (.inl ⟨by rfl, fun w hw => by go_simp⟩) (InvG.mk hP trivial) ?_
 refine fSyntaxTextsLawA12_37 ?_
 refine wpAnyG_ready (rs := [4]) (by kernel_rfl) (by simp) ?_
 refine AllReadyG.plain rfl rfl (fun K hK => ?_) AllReadyG.nil
 go_simp
 refine (HFa.out _ (Below.refl _ _).drew).mono ?_
 rintro e w8 ⟨rfl, hb8⟩
 have hP8 : Blk w8 gA cs ∧ Blk w8 gB ds := ⟨hP.1.below hb8 hP.1.lt, hP.2.below hb8 hP.2.lt⟩
 replace hb8 : Below w7.heap.size w7 w8 := (Below.refl _ _).drew.trans hb8
 refine hK.out _ _ (InvG.mk hP8 trivial) (fun _ => ?_)
 clear hK hP
 refine fSyntaxTextsLawA12_37 ?_
 refine wpAnyG_take0 (i := 5) (v := .bool true) rfl (by kernel_rfl) (fun _ _ _ h => h) (.inl ⟨by rfl, fun w hw => by go_simp⟩) (InvG.mk hP8 trivial) ?_
 refine fSyntaxTextsLawA12_37 ?_
 refine wpAnyG_take0 (i := 6) (v := .agg cs.toArray) rfl (by kernel_rfl) (fun _ _ _ h => h) (yieldsIf_load_mid (by rfl) 26 _ rfl gA 0 (by go_simp) cs _ (fun w h => h.1.whole) Tryz.underlying26 rfl hsA) (InvG.mk hP8 trivial) ?_
 refine fSyntaxTextsLawA12_37 ?_
 refine wpAnyG_take0 (i := 8) (v := .agg ds.toArray) rfl (by kernel_rfl) (fun _ _ _ h => h) (yieldsIf_load_mid (by rfl) 34 _ rfl gB 0 (by go_simp) ds _ (fun w h => h.2.whole) Tryz.underlying34 rfl hsB) (InvG.mk hP8 trivial) ?_
 refine fSyntaxTextsLawA12_37 ?_
 refine wpAnyG_ready (rs := [7]) (by kernel_rfl) (by simp) ?_
 refine AllReadyG.cons rfl (fun K hK => ?_) AllReadyG.nil
 rw [if_pos (by kernel_rfl)]
 go_simp
 refine (Of_any (frag w8) f cs w8 (FLe.refl _) (HF.out.mono (below_le hb8))).mono ?_
 rintro e w9 ⟨es, rfl, hfe, hb9⟩
 replace hfe := hfe.mono (fragJ_le (below_le hb9))
 have hb19 := hb9
 replace hb9 : Below w7.heap.size w7 w9 := hb8.trans (hb9.mono hb8.size)
 have hP9 : Blk w9 gA cs ∧ Blk w9 gB ds := ⟨hP8.1.below hb19 hP8.1.lt, hP8.2.below hb19 hP8.2.lt⟩
 refine hK.out _ _ (InvG.mk hP9 trivial) (fun _ => ?_)
 clear hK
 refine fSyntaxTextsLawA12_37 ?_
 refine wpAnyG_ready (rs := [9]) (by kernel_rfl) (by simp) ?_
 refine AllReadyG.cons rfl (fun K hK => ?_) AllReadyG.nil
 rw [if_pos (by kernel_rfl)]
 go_simp
 refine (eqFile_any f es ds w9 hfe (HG.out.mono (below_le hb9))).mono ?_
 rintro e w10 ⟨rfl, hb10⟩
 have hP10 : Blk w10 gA cs ∧ Blk w10 gB ds := ⟨hP9.1.below hb10 hP9.1.lt, hP9.2.below hb10 hP9.2.lt⟩
 replace hb9 : Below w7.heap.size w7 w10 := hb9.trans (hb10.mono hb9.size)
 refine hK.out _ _ (InvG.mk hP10 trivial) (fun _ => ?_)
 clear hK hb10
 refine fSyntaxTextsLawA12_37 ?_
 refine wpAnyG_take0 (i := 10) (v := .bool true) rfl (by kernel_rfl) (fun _ _ _ h => h) (.inl ⟨by rfl, fun w hw => by go_simp⟩) (InvG.mk hP10 trivial) ?_
 refine fSyntaxTextsLawA12_37 ?_
 refine wpAnyG_take0 (i := 11) (v := .bool true) rfl (by kernel_rfl) (fun _ _ _ h => h) (.inl ⟨by rfl, fun w hw => by go_simp⟩) (InvG.mk hP10 trivial) ?_
 refine fSyntaxTextsLawA12_37 ?_
 refine wpAnyG_done (by kernel_rfl) ?_ _
 go_wp2_with fail
 go_ret
 exact ⟨rfl, HT.out.trans (hb9.mono HT.out.size)⟩
end Go.Proofs.YtpcfdngnmigkfaaGreatDoor
