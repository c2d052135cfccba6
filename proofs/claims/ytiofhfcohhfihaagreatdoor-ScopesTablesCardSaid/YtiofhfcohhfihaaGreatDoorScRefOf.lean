/- The reference redlineref09, walked: Of. -/
import Derived.Test.YtiofhfcohhfihaaGreatDoorScRef
namespace Go.Proofs.YtiofhfcohhfihaaGreatDoor
open Go.RowKit
set_option linter.unusedVariables false
set_option linter.unusedSimpArgs false

theorem fScRefOfA12_68 {P : Program} {md : Region.Mode} {ops : Array Oper} {Q : Exit → Act → World → Prop} {P0 P1 : World → Prop} {fin fuel : Nat} {b0 b1 b2 b3 b4 b5 b6 b7 b8 b9 b10 b11 : Bool} {x0 x1 x2 x3 x4 x5 x6 x7 x8 x9 x10 x11 x12 x13 x14 x15 x16 x17 x18 x19 x20 x21 x22 x23 x24 x25 x26 x27 x28 x29 x30 x31 x32 x33 x34 x35 x36 x37 x38 x39 x40 x41 x42 x43 x44 x45 x46 x47 x48 x49 x50 x51 x52 x53 x54 x55 x56 x57 x58 x59 x60 x61 x62 x63 x64 x65 x66 x67 : Value} {d} {w : World} (h : wpAnyG P md ops Q P0 P1 fin fuel #[b0, b1, b2, b3, b4, b5, b6, b7, b8, b9, b10, b11] ⟨#[x0, x1, x2, x3, x4, x5, x6, x7, x8, x9, x10, x11, x12, x13, x14, x15, x16, x17, x18, x19, x20, x21, x22, x23, x24, x25, x26, x27, x28, x29, x30, x31, x32, x33, x34, x35, x36, x37, x38, x39, x40, x41, x42, x43, x44, x45, x46, x47, x48, x49, x50, x51, x52, x53, x54, x55, x56, x57, x58, x59, x60, x61, x62, x63, x64, x65, x66, x67], d⟩ w) : wpAnyG P md ops Q P0 P1 fin fuel #[b0, b1, b2, b3, b4, b5, b6, b7, b8, b9, b10, b11] ⟨#[x0, x1, x2, x3, x4, x5, x6, x7, x8, x9, x10, x11, x12, x13, x14, x15, x16, x17, x18, x19, x20, x21, x22, x23, x24, x25, x26, x27, x28, x29, x30, x31, x32, x33, x34, x35, x36, x37, x38, x39, x40, x41, x42, x43, x44, x45, x46, x47, x48, x49, x50, x51, x52, x53, x54, x55, x56, x57, x58, x59, x60, x61, x62, x63, x64, x65, x66, x67], d⟩ w := h

theorem own_addr9 {w : World} {B : Nat} {e : TypeId} {size n c : Nat} {a : Option Addr} {xs : List Value} (h : w.ownsRow B e size (.slice a n c) n xs) (hn : 0 < n) : (∃ g, a = some ⟨g, 0, none⟩) ∧ n ≤ c := by
  rcases h.2 with ⟨h', hz⟩ | ⟨g', cap', cur, h', _, _, hc, _⟩
  · omega
  · cases h'; exact ⟨⟨g', rfl⟩, hc⟩
theorem own_range {α : Type} {f : α → List Value} {s : Nat} (hf : ∀ x, (f x).length = s) {w : World} {B : Nat} {e : TypeId} {n g cap : Nat} {xs : List α} (h : w.ownsRow B e s (.slice (some ⟨g, 0, none⟩) n cap) n (xs.flatMap f)) (hn : xs.length = n) {i : Nat} (hi : i < xs.length) : w.rangeAt g (i * s) (f xs[i]) := by
  intro j u hj
  have hjs : j < s := by
    have h1 := (List.getElem?_eq_some_iff.1 hj).1
    rw [hf] at h1; exact h1
  have hb : i * s + j < n * s := by
    have : (i + 1) * s ≤ n * s := Nat.mul_le_mul_right _ (by omega)
    rw [Nat.succ_mul] at this; omega
  rw [h.cellAt (i * s + j) hb, flat_at hf xs i j hi hjs]; exact hj
theorem ty_set (A B : List Sc.Ty) (t : Sc.Ty) (i : Nat) (hA : A.length = i) (c : Nat) : ((A ++ t :: B).flatMap tyC).set (i * 5 + 2) (.int .i64 ((c : Nat) : Int)) = (A ++ { t with index := c } :: B).flatMap tyC := by
  have h : (A.flatMap tyC).length = i * 5 := by rw [flat_len tyC_len, hA]
  rw [List.flatMap_append, List.flatMap_append, List.flatMap_cons, List.flatMap_cons, List.set_append_right _ _ (by omega), h, show i * 5 + 2 - i * 5 = 2 by omega]
  rfl
theorem sizeRTys (w : World) : (Go.sizeOf (Tryz.prog.elem 55)).run Tryz.prog w = .ok 5 w := by kernel_rfl
theorem fulls_take_succ (l : List Sc.Ty) {j : Nat} (h : j < l.length) : Sc.fulls (l.take (j + 1)) = Sc.fulls (l.take j) ++ [l[j].full] := by
  rw [List.take_succ_eq_append_getElem h]; unfold Sc.fulls; rw [List.map_append]; rfl
theorem count_take_succ (l : List Sc.Ty) (e : Bool) {j : Nat} (h : j < l.length) : Sc.count (l.take (j + 1)) e = Sc.count (l.take j) e + (if l[j].enum = e then 1 else 0) := by
  rw [List.take_succ_eq_append_getElem h, count_snoc]

theorem results_four {P : Program} {fn : Func} {p q r s : Tmp} (h : fn.results = #[.tmp p, .tmp q, .tmp r, .tmp s]) {tmps : Array Value} {w : World} : (results fn tmps).run P w = .ok (.tuple #[tmps.getD p undef, tmps.getD q undef, tmps.getD r undef, tmps.getD s undef]) w := by
  simp [results, h]
def RefPost (w : World) (r : List Sc.Ty × Option Sc.Bad) (e : Ending) (w' : World) : Prop :=
  Below w.heap.size w w' ∧ match r.2 with
  | none => ∃ v, e = .returned (.tuple #[v, .int .i64 0, .int .i64 0, .int .i64 0]) ∧ FlatV tyC (frag w') v r.1
  | some x => e = .returned (.tuple #[.slice none 0 0, .int .i64 (x.1 : Nat), .int .i64 (x.2.1 : Nat), .int .i64 (x.2.2 : Nat)])

set_option maxHeartbeats 16000000 in
set_option maxRecDepth 100000 in
theorem rof09_any (h0 : Frag) (f : Sx.Fil) (cs : List Value) (w : World) (hle : FLe h0 (frag w)) (hd : Sx.DeepF f) (hfew : (Sc.raws f).length ≤ 5000) (hf : FilR h0 f cs) :
    Calls Tryz.prog 20 #[.agg cs.toArray] w (RefPost w (Sc.table f)) := by
  obtain ⟨R, hR⟩ : ∃ R, R = Sc.table f := ⟨_, rfl⟩
  rw [← hR]
  obtain ⟨v1, v2, m1, m2, rfl, ⟨q1, q2⟩, hm1, hm2⟩ := hf
  obtain ⟨a1, c1, rfl, _, _, _⟩ := q1.1.len
  obtain ⟨a2, c2, rfl, _, _, _⟩ := q2.1.len
  obtain ⟨pk, ms, es⟩ := f
  dsimp only at hm1 hm2
  unfold Sc.table at hR
  unfold Sc.raws at hfew hR
  dsimp only at hfew hR
  have HQ1 := Lib.hid q1; have HQ2 := Lib.hid q2; have HM1 := Lib.hid hm1; have HM2 := Lib.hid hm2; have HD := Lib.hid hd; have HL := Lib.hid hle; have Hfew := Lib.hid hfew
  have hfe := Sx.rawEs_len pk es
  have HR := Lib.hid hR
  clear q1 q2 hm1 hm2 hd hR hle hfew hfe
  go_enter Tryz.func20, Tryz.ntmps20
  go_upto_region 1 with (first
    | (refine wpList_box_lay rfl 40 _ rfl [.string (toB pk), .slice a1 m1.length c1, .slice a2 m2.length c2] rfl ?_; (intro w1 g1 hg1 hB1 hb1)))
  have HB1 := Lib.hid hb1; have Hg1 := Lib.hid hg1
  have hP : Blk w1.drew g1 [.string (toB pk), .slice a1 m1.length c1, .slice a2 m2.length c2] := hB1
  have HEn := Lib.hid (renums_any h0 pk es (.slice a2 m2.length c2) m2 w1.drew (by have := HD.out.pack; dsimp only at this; omega) HD.out.enums (HL.out.trans (below_le hb1.drew)) HQ2.out HM2.out)
  have HMs := Lib.hid (fun w2 (hb : Below w.heap.size w w2) => rmessages_at 8 h0 pk ms (.slice a1 m1.length c1) m1 w2 (by have := HD.out.pack; dsimp only at this; omega) HD.out.msgs (by have := Hfew.out; rw [List.length_append] at this; omega) (HL.out.trans (below_le hb)) HQ1.out HM1.out)
  unfold RawPost at HEn HMs
  clear hB1 hb1 hg1
  refine wp_region_G 99 (fun w' => Blk w' g1 [.string (toB pk), .slice a1 m1.length c1, .slice a2 m2.length c2]) (fun _ => True) (by kernel_rfl) hP trivial (fun _ => ?_)
  refine fScRefOfA12_68 ?_
  refine wpAnyG_take0 (i := 0) (v := .pointer (some ⟨g1, 0, none⟩)) rfl (by kernel_rfl) (fun _ _ _ h => h) (.inl ⟨by rfl, fun w hw => by go_simp⟩) (InvG.mk hP trivial) ?_
  refine fScRefOfA12_68 ?_
  refine wpAnyG_take0 (i := 1) (v := .string (toB pk)) rfl (by kernel_rfl) (fun _ _ _ h => h) (.inl ⟨by rfl, fun w hw => by have hc := Blk.cell (o := 0) (u := Value.string (toB pk)) hw rfl; clear hw; go_simp⟩) (InvG.mk hP trivial) ?_
  refine fScRefOfA12_68 ?_
  refine wpAnyG_take0 (i := 2) (v := .pointer (some ⟨g1, 2, none⟩)) rfl (by kernel_rfl) (fun _ _ _ h => h) (.inl ⟨by rfl, fun w hw => by go_simp⟩) (InvG.mk hP trivial) ?_
  refine fScRefOfA12_68 ?_
  refine wpAnyG_take0 (i := 3) (v := .slice a2 m2.length c2) rfl (by kernel_rfl) (fun _ _ _ h => h) (.inl ⟨by rfl, fun w hw => by have hc := Blk.cell (o := 2) (u := Value.slice a2 m2.length c2) hw rfl; clear hw; go_simp⟩) (InvG.mk hP trivial) ?_
  refine fScRefOfA12_68 ?_
  refine wpAnyG_take0 (i := 5) (v := .pointer (some ⟨g1, 0, none⟩)) rfl (by kernel_rfl) (fun _ _ _ h => h) (.inl ⟨by rfl, fun w hw => by go_simp⟩) (InvG.mk hP trivial) ?_
  refine fScRefOfA12_68 ?_
  refine wpAnyG_take0 (i := 6) (v := .string (toB pk)) rfl (by kernel_rfl) (fun _ _ _ h => h) (.inl ⟨by rfl, fun w hw => by have hc := Blk.cell (o := 0) (u := Value.string (toB pk)) hw rfl; clear hw; go_simp⟩) (InvG.mk hP trivial) ?_
  refine fScRefOfA12_68 ?_
  refine wpAnyG_take0 (i := 7) (v := .pointer (some ⟨g1, 1, none⟩)) rfl (by kernel_rfl) (fun _ _ _ h => h) (.inl ⟨by rfl, fun w hw => by go_simp⟩) (InvG.mk hP trivial) ?_
  refine fScRefOfA12_68 ?_
  refine wpAnyG_take0 (i := 8) (v := .slice a1 m1.length c1) rfl (by kernel_rfl) (fun _ _ _ h => h) (.inl ⟨by rfl, fun w hw => by have hc := Blk.cell (o := 1) (u := Value.slice a1 m1.length c1) hw rfl; clear hw; go_simp⟩) (InvG.mk hP trivial) ?_
  refine fScRefOfA12_68 ?_
  refine wpAnyG_ready (rs := [4]) (by kernel_rfl) (by simp) ?_
  refine AllReadyG.plain rfl rfl (fun K hK => ?_) AllReadyG.nil
  go_simp
  refine HEn.out.mono ?_
  rintro e w2 ⟨u2, rfl, hown2, hb2⟩
  have HB2 := Lib.hid (HB1.out.drew.trans (hb2.mono HB1.out.size))
  have HMs2 := Lib.hid (HMs.out w2 HB2.out)
  have hP2 : Blk w2 g1 [.string (toB pk), .slice a1 m1.length c1, .slice a2 m2.length c2] := hP.below hb2 hP.lt
  refine hK.out _ _ (InvG.mk hP2 trivial) (fun _ => ?_)
  clear hK
  refine fScRefOfA12_68 ?_
  refine wpAnyG_ready (rs := [9]) (by kernel_rfl) (by simp) ?_
  refine AllReadyG.plain rfl rfl (fun K hK => ?_) AllReadyG.nil
  go_simp
  refine HMs2.out.mono ?_
  rintro e w3 ⟨u3, rfl, hown3, hb3⟩
  have HB3 := Lib.hid (HB2.out.trans (hb3.mono HB2.out.size))
  have hP3 : Blk w3 g1 [.string (toB pk), .slice a1 m1.length c1, .slice a2 m2.length c2] := hP2.below hb3 hP2.lt
  obtain ⟨a3, c3, rfl, hrow3, hn3, hm3, hz3⟩ := HRow.of_owns (E := []) hown3 (.inr (by simp))
  rw [fragE_nil] at hrow3
  have HO3 := Lib.hid (owns_below hown2 hb3)
  refine hK.out _ _ (InvG.mk hP3 trivial) (fun _ => ?_)
  clear hK
  refine fScRefOfA12_68 ?_
  refine wpAnyG_ready (rs := [10]) (by kernel_rfl) (by simp) ?_
  refine AllReadyG.plain rfl rfl (fun K hK => ?_) AllReadyG.nil
  refine wp_append_opt T_RTy _ _ rfl rfl HO3.out rfl hz3 hn3 hrow3 (len_raws _) (one_raws _) (by have := Hfew.out; rw [List.length_append] at this; omega) (Nat.le_trans hb2.size hb3.size) ?_
  intro v4 w4 hown4 hgr4 hat4
  have hP4 : Blk w4 g1 [.string (toB pk), .slice a1 m1.length c1, .slice a2 m2.length c2] := hP3.grown hgr4 (fun e => by have h1 := (hown2.lt g1 e.symm).1; have h2 := hP.lt; omega)
  refine hK.out _ _ (InvG.mk hP4 trivial) (fun _ => ?_)
  clear hK
  refine fScRefOfA12_68 ?_
  refine wpAnyG_take0 (i := 11) (v := v4) rfl (by kernel_rfl) (fun _ _ _ h => h) (.inl ⟨by rfl, fun w hw => by go_simp⟩) (InvG.mk hP4 trivial) ?_
  refine fScRefOfA12_68 ?_
  refine wpAnyG_done (by kernel_rfl) ?_ _
  have HO4 : Hid (w4.ownsRow w.heap.size 62 5 v4 (Sc.rawEs pk es ++ Sc.rawMs pk ms).length ((Sc.rawEs pk es ++ Sc.rawMs pk ms).flatMap rawC)) := Lib.hid (by
    rw [List.length_append, List.flatMap_append]
    exact own_base hown4 HB1.out.size)
  have HB4 : Hid (Below w.heap.size w w4) := Lib.hid (Below.grown HB3.out hgr4 HB3.out.size (fun k hk => by have h1 := (hown2.lt k hk).1; have h2 := HB1.out.size; have h3 : w1.drew.heap.size = w1.heap.size := rfl; omega))
  obtain ⟨L, hL⟩ : ∃ L, L = Sc.rawEs pk es ++ Sc.rawMs pk ms := ⟨_, rfl⟩
  rw [← hL] at HO4 HR Hfew
  clear hP hP2 hP3 hP4 hown2 hown3 hown4 hb2 hb3 hrow3 hn3 hm3 hz3 hgr4 hat4 hL HEn HMs HMs2 HO3 HB2 HB3
  obtain ⟨va, vc, rfl⟩ := own_sl HO4.out
  obtain ⟨n, hn⟩ : ∃ n, n = L.length := ⟨_, rfl⟩
  rw [← hn] at HO4 Hfew ⊢
  have Hn := Lib.hid hn.symm
  have hns : n ≤ 9223372036854775807 := by have := Hfew.out; omega
  have HOs : Hid (w4.ownsRow w.heap.size 62 5 (.slice va n vc) n (([] ++ (L.drop 0).map rawT).flatMap tyC)) := Lib.hid (by
    have h1 := HO4.out
    rw [List.nil_append, List.drop_zero, List.flatMap_map]; exact h1)
  clear hn HO4
  go_wp2_with fail
  go_loopw [24] (fun iv wr => ∃ (i : Nat) (lk : List Sc.Ty), i ≤ n ∧ iv = .int .i64 i ∧ Hid (lk.length = i) ∧ Hid (R = Sc.addAll lk (L.drop i)) ∧ Hid (wr.ownsRow w.heap.size 62 5 (.slice va n vc) n ((lk ++ (L.drop i).map rawT).flatMap tyC)) ∧ Hid (Below w.heap.size w wr)) (fun iv _ => n - (intOf iv).toNat)
  case atStart => exact ⟨0, [], Nat.zero_le _, rfl, Lib.hid rfl, HR, HOs, HB4⟩
  case round =>
    obtain ⟨i, lk, hin, rfl, HK, HRi, HO, HB⟩ := hrel
    by_cases hlt : i < n
    · have hi1 : i < L.length := by rw [Hn.out]; exact hlt
      obtain ⟨⟨gl, rfl⟩, hcap⟩ := own_addr9 HO.out (by omega)
      have hidx : ∀ w, (Instr.indexAt 55 (.slice (some ⟨gl, 0, none⟩) n vc) (.int .i64 i)).run Tryz.prog w = .ok (.pointer (some ⟨gl, i * 5, none⟩)) w := fun w => own_idx hlt Tryz.underlying55 sizeRTys w
      obtain ⟨x, hx⟩ : ∃ x, x = L[i] := ⟨_, rfl⟩
      have hdrop : L.drop i = x :: L.drop (i + 1) := by rw [hx]; exact List.drop_eq_getElem_cons hi1
      rw [hdrop] at HRi HO
      rw [List.map_cons] at HO
      have Hrl : Hid ((lk ++ rawT x :: (L.drop (i + 1)).map rawT).length = n) := Lib.hid (by
        rw [List.length_append, List.length_cons, List.length_map, List.length_drop, HK.out, Hn.out]; omega)
      have hr : wr.rangeAt gl (i * 5) (tyC (rawT x)) := by
        have h1 := own_range tyC_len HO.out Hrl.out (i := i) (by rw [Hrl.out]; exact hlt)
        have h2 : (lk ++ rawT x :: (L.drop (i + 1)).map rawT)[i]'(by rw [Hrl.out]; exact hlt) = rawT x := by
          rw [List.getElem_append_right (by rw [HK.out]; exact Nat.le_refl _)]
          simp [HK.out]
        rw [h2] at h1; exact h1
      have Hgl : Hid (w.heap.size ≤ gl ∧ gl < wr.heap.size) := Lib.hid (HO.out.lt gl rfl)
      clear hx hdrop hi1
      go_upto_region 5 with (first
        | (refine wpList_load_seg rfl 62 _ rfl _ _ rfl _ _ hr Tryz.underlying62 rfl infoRTy ?_)
        | (refine wpList_alloc_lay rfl 62 rfl zTy zeroRTy ?_; (intro w7 g8 hg7 hB7 hb7; clear hr))
        | (refine wpList_store_all rfl 62 _ _ rfl g8 (tyC (rawT x)) rfl rfl zTy hB7 infoRTy rfl (one_tyC _) ?_; (intro w8 hB8 hgr8; have hb8 := Below.grown hb7 hgr8 hb7.size (fun _ e => by cases e; exact hg7); clear hb7 hgr8 hB7)))
      have HO8 : Hid (w8.ownsRow w.heap.size 62 5 (.slice (some ⟨gl, 0, none⟩) n vc) n ((lk ++ ⟨x.full, x.enum, Sc.count (lk.take 0) x.enum, x.line, x.col⟩ :: (L.drop (i + 1)).map rawT).flatMap tyC)) := Lib.hid (owns_below HO.out hb8)
      have HB8 := Lib.hid (HB.out.trans (hb8.mono HB.out.size))
      have HX8 := Lib.hid hB8
      have Hne : Hid (g8 ≠ gl) := Lib.hid (fun e => by have := Hgl.out.2; omega)
      have his : i ≤ 9223372036854775807 := by omega
      have hvc : i ≤ vc := by omega
      clear hB8 hb8 hg7
      go_wp2_with fail
      go_loopw [33] (fun jv wr => ∃ j : Nat, j ≤ i ∧ jv = .int .i64 j ∧ Hid (¬ x.full ∈ Sc.fulls (lk.take j)) ∧ Hid (wr.ownsRow w.heap.size 62 5 (.slice (some ⟨gl, 0, none⟩) n vc) n ((lk ++ ⟨x.full, x.enum, Sc.count (lk.take j) x.enum, x.line, x.col⟩ :: (L.drop (i + 1)).map rawT).flatMap tyC)) ∧ Hid (Blk wr g8 (tyC (rawT x))) ∧ Hid (Below w.heap.size w wr)) (fun jv _ => i - (intOf jv).toNat)
      case atStart => exact ⟨0, Nat.zero_le _, rfl, Lib.hid (by simp [Sc.fulls]), HO8, HX8, HB8⟩
      case round =>
        obtain ⟨j, hji, rfl, HN, HOj, HXj, HBj⟩ := hrel
        by_cases hjlt : j < i
        · have hj1 : j < lk.length := by rw [HK.out]; exact hjlt
          have hjn : j < n := by omega
          have hidj : ∀ w, (Instr.indexAt 55 (.slice (some ⟨gl, 0, none⟩) i vc) (.int .i64 j)).run Tryz.prog w = .ok (.pointer (some ⟨gl, j * 5, none⟩)) w := fun w => own_idx hjlt Tryz.underlying55 sizeRTys w
          have Hrj : Hid ((lk ++ (⟨x.full, x.enum, Sc.count (lk.take j) x.enum, x.line, x.col⟩ : Sc.Ty) :: (L.drop (i + 1)).map rawT).length = n) := Lib.hid (by
            have h1 := Hrl.out
            rw [List.length_append, List.length_cons] at h1 ⊢; exact h1)
          have HF1 := Lib.hid (fulls_take_succ lk hj1)
          have HC1 := Lib.hid (count_take_succ lk x.enum hj1)
          have Hmem : Hid (lk[j].full ∈ Sc.fulls lk) := Lib.hid (List.mem_map.2 ⟨_, List.getElem_mem hj1, rfl⟩)
          have hr : wr.rangeAt gl (j * 5) (tyC lk[j]) := by
            have h1 := own_range tyC_len HOj.out Hrj.out (i := j) (by rw [Hrj.out]; exact hjn)
            have h2 : (lk ++ (⟨x.full, x.enum, Sc.count (lk.take j) x.enum, x.line, x.col⟩ : Sc.Ty) :: (L.drop (i + 1)).map rawT)[j]'(by rw [Hrj.out]; exact hjn) = lk[j] := List.getElem_append_left hj1
            rw [h2] at h1; exact h1
          have Hcell : Hid (∀ w' : World, w'.ownsRow w.heap.size 62 5 (.slice (some ⟨gl, 0, none⟩) n vc) n ((lk ++ ⟨x.full, x.enum, Sc.count (lk.take j) x.enum, x.line, x.col⟩ :: (L.drop (i + 1)).map rawT).flatMap tyC) → w'.cell? ⟨gl, i * 5 + 2, none⟩ = some (.int .i64 (Sc.count (lk.take j) x.enum : Nat))) := Lib.hid (fun w' h => by
            have h1 := own_range tyC_len h Hrj.out (i := i) (by rw [Hrj.out]; exact hlt)
            have h2 : (lk ++ (⟨x.full, x.enum, Sc.count (lk.take j) x.enum, x.line, x.col⟩ : Sc.Ty) :: (L.drop (i + 1)).map rawT)[i]'(by rw [Hrj.out]; exact hlt) = ⟨x.full, x.enum, Sc.count (lk.take j) x.enum, x.line, x.col⟩ := by
              rw [List.getElem_append_right (by rw [HK.out]; exact Nat.le_refl _)]
              simp [HK.out]
            rw [h2] at h1
            exact h1 2 _ rfl)
          have hcnt : Sc.count (lk.take j) x.enum ≤ 9223372036854775806 := by
            have h1 := count_le (lk.take j) x.enum
            rw [List.length_take] at h1
            have := Hfew.out
            omega
          have Hj1 := Lib.hid hj1
          generalize lk[j] = y at *
          clear hj1
          go_upto_region 8 with (first
            | (refine wpList_load_seg rfl 62 _ rfl _ _ rfl _ _ hr Tryz.underlying62 rfl infoRTy ?_)
            | (refine wpList_alloc_lay rfl 62 rfl zTy zeroRTy ?_; (intro w9 g10 hg9 hB9 hb9; clear hr))
            | (refine wpList_store_all rfl 62 _ _ rfl g10 (tyC y) rfl rfl zTy hB9 infoRTy rfl (one_tyC _) ?_; (intro w10 hB10 hgr10; have hb10 := Below.grown hb9 hgr10 hb9.size (fun _ e => by cases e; exact hg9); clear hb9 hgr10 hB9)))
          have HO10 := Lib.hid (owns_below HOj.out hb10)
          have HB10 := Lib.hid (HBj.out.trans (hb10.mono HBj.out.size))
          have HX10 := Lib.hid (HXj.out.below hb10 HXj.out.lt)
          have HY10 := Lib.hid hB10
          have Hne2 : Hid (g10 ≠ gl) := Lib.hid (fun e => by have := (HOj.out.lt gl rfl).2; omega)
          have e1 : w10.cell? ⟨g10, 1, none⟩ = some (.bool y.enum) := hB10.cell (o := 1) rfl
          have e2 : w10.cell? ⟨g8, 1, none⟩ = some (.bool x.enum) := HX10.out.cell (o := 1) rfl
          clear hB10 hb10 hg9
          by_cases hen : y.enum = x.enum
          · have q : (y.enum == x.enum) = true := beq_iff_eq.2 hen
            have cc := Hcell.out w10 HO10.out
            have ff := HO10.out.frozenAt (i * 5 + 2)
            obtain ⟨o2, g2⟩ := HO10.out.stored (i * 5 + 2) (.int .i64 ((Sc.count (lk.take j) x.enum + 1 : Nat) : Int))
            rw [ty_set lk _ _ i HK.out] at o2
            have Ho2 : Hid ((w10.setCell ⟨gl, i * 5 + 2, none⟩ (.int .i64 ((Sc.count (lk.take j) x.enum + 1 : Nat) : Int))).ownsRow w.heap.size 62 5 (.slice (some ⟨gl, 0, none⟩) n vc) n ((lk ++ ⟨x.full, x.enum, Sc.count (lk.take (j + 1)) x.enum, x.line, x.col⟩ :: (L.drop (i + 1)).map rawT).flatMap tyC)) := Lib.hid (by
              rw [HC1.out, if_pos hen]; exact o2)
            have HX11 := Lib.hid (HX10.out.grown g2 (fun e => Hne.out (Option.some.inj e)))
            have HY11 := Lib.hid (HY10.out.grown g2 (fun e => Hne2.out (Option.some.inj e)))
            have HB11 : Hid (Below w.heap.size w (w10.setCell ⟨gl, i * 5 + 2, none⟩ (.int .i64 ((Sc.count (lk.take j) x.enum + 1 : Nat) : Int)))) := Lib.hid (Below.grown HB10.out g2 HB10.out.size (fun k e => by cases e; exact Hgl.out.1))
            have hst : (.int .i64 ((Sc.count (lk.take j) x.enum + 1 : Nat) : Int) : Value) = .int .i64 ((Sc.count (lk.take j) x.enum : Nat) + 1 : Int) := by simp
            rw [hst] at Ho2 HX11 HY11 HB11
            clear o2 g2 hst
            go_upto_region 10 with fail
            have f1 : (w10.setCell ⟨gl, i * 5 + 2, none⟩ (.int .i64 ((Sc.count (lk.take j) x.enum : Nat) + 1 : Int))).cell? ⟨g10, 0, none⟩ = some (.string (toB y.full)) := HY11.out.cell (o := 0) rfl
            have f2 : (w10.setCell ⟨gl, i * 5 + 2, none⟩ (.int .i64 ((Sc.count (lk.take j) x.enum : Nat) + 1 : Int))).cell? ⟨g8, 0, none⟩ = some (.string (toB x.full)) := HX11.out.cell (o := 0) rfl
            have d3 : (w10.setCell ⟨gl, i * 5 + 2, none⟩ (.int .i64 ((Sc.count (lk.take j) x.enum : Nat) + 1 : Int))).cell? ⟨g8, 3, none⟩ = some (.int .i64 x.line) := HX11.out.cell (o := 3) rfl
            have d4 : (w10.setCell ⟨gl, i * 5 + 2, none⟩ (.int .i64 ((Sc.count (lk.take j) x.enum : Nat) + 1 : Int))).cell? ⟨g8, 4, none⟩ = some (.int .i64 x.col) := HX11.out.cell (o := 4) rfl
            have qt := toB_beq y.full x.full
            obtain ⟨wk, hwk⟩ : ∃ z, z = (w10.setCell ⟨gl, i * 5 + 2, none⟩ (.int .i64 ((Sc.count (lk.take j) x.enum : Nat) + 1 : Int))) := ⟨_, rfl⟩
            rw [← hwk] at Ho2 HX11 HY11 HB11 f1 f2 d3 d4 ⊢
            clear hwk e1 e2 q cc ff
            by_cases hfu : y.full = x.full
            · rw [decide_eq_true hfu] at qt
              have HRe : Hid (R = (lk, some (11, x.line, x.col))) := Lib.hid (by
                rw [HRi.out, addAll_step]
                have h1 : Sc.add1 lk x = (lk, some (11, x.line, x.col)) := by unfold Sc.add1; rw [if_pos (hfu ▸ Hmem.out)]
                rw [h1]; rfl)
              clear HRi Ho2 Hmem hfu
              go_upto_region 11 with fail
              have d3d : wk.drew.cell? ⟨g8, 3, none⟩ = some (.int .i64 x.line) := d3
              have d4d : wk.drew.cell? ⟨g8, 4, none⟩ = some (.int .i64 x.col) := d4
              go_quiet (fail)
              go_wp2_with fail
              rw [HRe.out]
              exact bodyPost_ret (results_four rfl) rfl ⟨Below.drewN HB11.out _, rfl⟩
            · rw [decide_eq_false hfu] at qt
              have HN2 : Hid (¬ x.full ∈ Sc.fulls (lk.take (j + 1))) := Lib.hid (by
                rw [HF1.out, List.mem_append]
                rintro (h | h)
                · exact HN.out h
                · exact hfu (List.mem_singleton.1 h).symm)
              clear hfu Hmem
              go_wp2_with fail
              go_roundw
              case rel => exact ⟨j + 1, by omega, by go_num, HN2, Ho2, HX11, HB11⟩
              case measure => simp [intOf]; omega
          · have q : (y.enum == x.enum) = false := beq_eq_false_iff_ne.2 hen
            have Ho2 : Hid (w10.ownsRow w.heap.size 62 5 (.slice (some ⟨gl, 0, none⟩) n vc) n ((lk ++ ⟨x.full, x.enum, Sc.count (lk.take (j + 1)) x.enum, x.line, x.col⟩ :: (L.drop (i + 1)).map rawT).flatMap tyC)) := Lib.hid (by
              rw [HC1.out, if_neg hen]; exact HO10.out)
            have HX11 := HX10; have HY11 := HY10; have HB11 := HB10
            go_upto_region 10 with fail
            have f1 : w10.cell? ⟨g10, 0, none⟩ = some (.string (toB y.full)) := HY11.out.cell (o := 0) rfl
            have f2 : w10.cell? ⟨g8, 0, none⟩ = some (.string (toB x.full)) := HX11.out.cell (o := 0) rfl
            have d3 : w10.cell? ⟨g8, 3, none⟩ = some (.int .i64 x.line) := HX11.out.cell (o := 3) rfl
            have d4 : w10.cell? ⟨g8, 4, none⟩ = some (.int .i64 x.col) := HX11.out.cell (o := 4) rfl
            have qt := toB_beq y.full x.full
            obtain ⟨wk, hwk⟩ : ∃ z, z = w10 := ⟨_, rfl⟩
            rw [← hwk] at Ho2 HX11 HY11 HB11 f1 f2 d3 d4 ⊢
            clear hwk e1 e2 q 
            by_cases hfu : y.full = x.full
            · rw [decide_eq_true hfu] at qt
              have HRe : Hid (R = (lk, some (11, x.line, x.col))) := Lib.hid (by
                rw [HRi.out, addAll_step]
                have h1 : Sc.add1 lk x = (lk, some (11, x.line, x.col)) := by unfold Sc.add1; rw [if_pos (hfu ▸ Hmem.out)]
                rw [h1]; rfl)
              clear HRi Ho2 Hmem hfu
              go_upto_region 11 with fail
              have d3d : wk.drew.cell? ⟨g8, 3, none⟩ = some (.int .i64 x.line) := d3
              have d4d : wk.drew.cell? ⟨g8, 4, none⟩ = some (.int .i64 x.col) := d4
              go_quiet (fail)
              go_wp2_with fail
              rw [HRe.out]
              exact bodyPost_ret (results_four rfl) rfl ⟨Below.drewN HB11.out _, rfl⟩
            · rw [decide_eq_false hfu] at qt
              have HN2 : Hid (¬ x.full ∈ Sc.fulls (lk.take (j + 1))) := Lib.hid (by
                rw [HF1.out, List.mem_append]
                rintro (h | h)
                · exact HN.out h
                · exact hfu (List.mem_singleton.1 h).symm)
              clear hfu Hmem
              go_wp2_with fail
              go_roundw
              case rel => exact ⟨j + 1, by omega, by go_num, HN2, Ho2, HX11, HB11⟩
              case measure => simp [intOf]; omega
        · obtain rfl : i = j := by omega
          have HNe : Hid (¬ x.full ∈ Sc.fulls lk) := Lib.hid (by
            have h1 := HN.out
            rw [List.take_of_length_le (by rw [HK.out]; exact Nat.le_refl _)] at h1; exact h1)
          have HOe : Hid (wr.ownsRow w.heap.size 62 5 (.slice (some ⟨gl, 0, none⟩) n vc) n ((lk ++ ⟨x.full, x.enum, Sc.count lk x.enum, x.line, x.col⟩ :: (L.drop (i + 1)).map rawT).flatMap tyC)) := Lib.hid (by
            have h1 := HOj.out
            rw [List.take_of_length_le (by rw [HK.out]; exact Nat.le_refl _)] at h1; exact h1)
          by_cases h40 : 40 ≤ i
          · have hz : (i : Int) ≥ 40 := by omega
            have d3 : wr.cell? ⟨g8, 3, none⟩ = some (.int .i64 x.line) := HXj.out.cell (o := 3) rfl
            have d4 : wr.cell? ⟨g8, 4, none⟩ = some (.int .i64 x.col) := HXj.out.cell (o := 4) rfl
            have HRe : Hid (R = (lk, some (3, x.line, x.col))) := Lib.hid (by
              rw [HRi.out, addAll_step]
              have h1 : Sc.add1 lk x = (lk, some (3, x.line, x.col)) := by unfold Sc.add1; rw [if_neg HNe.out, if_pos (by rw [HK.out]; exact h40)]
              rw [h1]; rfl)
            clear HRi HOe HNe hjlt hji h40
            go_upto_region 14 with fail
            have d3d : wr.drew.cell? ⟨g8, 3, none⟩ = some (.int .i64 x.line) := d3
            have d4d : wr.drew.cell? ⟨g8, 4, none⟩ = some (.int .i64 x.col) := d4
            go_quiet (fail)
            go_wp2_with fail
            rw [HRe.out]
            exact bodyPost_ret (results_four rfl) rfl ⟨Below.drewN HBj.out _, rfl⟩
          · have hz : ¬ (i : Int) ≥ 40 := by omega
            have hz2 : (i : Int) < 40 := by omega
            have HRe : Hid (R = Sc.addAll (lk ++ [⟨x.full, x.enum, Sc.count lk x.enum, x.line, x.col⟩]) (L.drop (i + 1))) := Lib.hid (by
              rw [HRi.out, addAll_step]
              have h1 : Sc.add1 lk x = (lk ++ [⟨x.full, x.enum, Sc.count lk x.enum, x.line, x.col⟩], none) := by
                unfold Sc.add1; rw [if_neg HNe.out, if_neg (by rw [HK.out]; exact h40)]; rfl
              rw [h1]; rfl)
            have HOf : Hid (wr.ownsRow w.heap.size 62 5 (.slice (some ⟨gl, 0, none⟩) n vc) n (((lk ++ [(⟨x.full, x.enum, Sc.count lk x.enum, x.line, x.col⟩ : Sc.Ty)]) ++ (L.drop (i + 1)).map rawT).flatMap tyC)) := Lib.hid (by
              rw [List.append_assoc]; exact HOe.out)
            have HKn : Hid ((lk ++ [(⟨x.full, x.enum, Sc.count lk x.enum, x.line, x.col⟩ : Sc.Ty)]).length = i + 1) := Lib.hid (by
              rw [List.length_append, HK.out]; rfl)
            clear HRi HOe HNe hjlt hji
            go_wp2_with fail
            go_roundw
            case rel => exact ⟨i + 1, _, by omega, by go_num, HKn, HRe, HOf, HBj⟩
            case measure => simp [intOf]; omega
    · obtain rfl : n = i := by omega
      have hdn : L.drop n = [] := List.drop_of_length_le (by rw [Hn.out]; exact Nat.le_refl _)
      have HRe : Hid (R = (lk, none)) := Lib.hid (by rw [HRi.out, hdn]; rfl)
      have HFl : Hid (FlatV tyC (frag wr) (.slice va n vc) lk) := Lib.hid (by
        have h1 := HO.out
        rw [hdn, List.map_nil, List.append_nil] at h1
        have h2 := FlatV.of_owns (f := tyC) (E := []) (n := n) (xs := lk) h1 HK.out (.inr (by simp))
        rw [fragE_nil] at h2; exact h2)
      clear HRi HO hdn hin hlt
      go_wp2_with fail
      rw [HRe.out]
      exact bodyPost_ret (results_four rfl) rfl ⟨HB.out, _, rfl, HFl.out⟩

end Go.Proofs.YtiofhfcohhfihaaGreatDoor
