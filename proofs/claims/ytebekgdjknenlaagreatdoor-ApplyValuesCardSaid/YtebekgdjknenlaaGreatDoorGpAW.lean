/- The rower of apply: change, walked. The rower's steps by their kind. What. -/
import Derived.Test.YtebekgdjknenlaaGreatDoorGpAV
set_option maxRecDepth 100000
set_option maxHeartbeats 4000000
set_option linter.unusedVariables false
set_option linter.unusedSimpArgs false
namespace Go.Proofs.YtebekgdjknenlaaGreatDoor
open Go.RowKit
open Val (V E cmp right eright esm v0 Res ado get find withV putV vmx esz partB)
variable {Fx : List (Option Nat)}
def DoAt (er : Errs) (N : Nat) : Prop := ∀ (F : List (Option Nat)) (e : E) (v : V) (ec vc : List Value) (w : World), (∀ k, some k ∈ F → k < w.heap.size) → SizeOf.sizeOf e < N → eright e = true → right v = true → esm e → vmx v + esz e ≤ 90000 → ErrsAt er w → ER (fragE w F) e ec → VR (fragE w F) v vc →
 Calls Tryz.prog 19 #[.agg ec.toArray, .agg vc.toArray] w (RetR er F w (ado e v))
def ChRel (er : Errs) (E : List (Option Nat)) (w1 : World) (r : Res V) (s6 s7 : Value) (F : World) : Prop :=
 ∃ g, w1.heap.size ≤ g ∧ s7 = .pointer (some ⟨g, 0, none⟩) ∧ Below w1.heap.size w1 F ∧ match r with
 | .bad b => s6 = er.of b
 | .ok z => s6 = .nilIface ∧ ∃ zc, Blk F g zc ∧ VR (fragE F (some g :: E)) z zc
def RV (er : Errs) (r : Res V) (ev : Value) (cs : List Value) (F : Frag) : Prop := match r with
 | .bad b => ev = er.of b
 | .ok z => ev = .nilIface ∧ VR F z cs
theorem changeR_cons (x : E) (y : V) (l o : List V) : Val.changeR x (y :: l) o = match ado x y with
  | .bad b => .bad b
  | .ok z => if 1 ≤ z.kind ∧ z.kind ≤ 3 then .ok (l, o ++ [z]) else .bad 12 := rfl
theorem Errs.is (er : Errs) (b : Nat) : ∃ t v, er.of b = .iface t v := by
 unfold Errs.of
 split
 ·exact ⟨_, _, rfl⟩
 ·split <;> exact ⟨_, _, rfl⟩
theorem RetR.form {er : Errs} {F : List (Option Nat)} {w w' : World} {r : Res V} {e : Ending} (h : RetR er F w r e w') : ∃ cs ev, e = .returned (.tuple #[.agg cs.toArray, ev]) ∧ cs.length = 7 ∧ (∀ u ∈ cs, u.oneCell' = true) ∧ Below w.heap.size w w' ∧ RV er r ev cs (fragE w' F) := by
 obtain ⟨hb, h⟩ := h
 cases r with
 | bad b => exact ⟨zV, _, h, rfl, zV_one, hb, rfl⟩
 | ok x =>
  obtain ⟨xc, h1, h2⟩ := h
  exact ⟨xc, _, h1, h2.len, h2.shape.one, hb, rfl, h2⟩
theorem RV.rel {er : Errs} {E : List (Option Nat)} {r : Res V} {ev : Value} {cs : List Value} {w1 F' : World} {F : Frag} {g : Nat} (h : RV er r ev cs F) (hle : FLe F (fragE F' (some g :: E))) (hg : w1.heap.size ≤ g) (hb : Below w1.heap.size w1 F') (hB : Blk F' g cs) : ChRel er E w1 r ev (.pointer (some ⟨g, 0, none⟩)) F' := by
 refine ⟨g, hg, rfl, hb, ?_⟩
 cases r with
 | bad b => exact h
 | ok z => exact ⟨h.1, cs, hB, h.2.mono hle⟩
theorem change_at (er : Errs) (N : Nat) (ih : DoAt er N) (w : World) (he : ErrsAt er w) (gr : Nat) (hG : ErrsLt gr) (av : Option Addr) (n cap : Nat) (ov : Value) (l o : List V) (les oes : List (List Value)) (hr : RowAt Fx w gr av n cap ov l o les oes) (k c : Int) (vc : List Value) (hvc : vc.length = 7) (x : E) (xc : List Value)
  (hx : ER (fragE w (some gr :: ov.ownBlock :: Fx)) x xc) (hs : SizeOf.sizeOf x < N) (hxr : eright x = true) (hsm : esm x) (hlr : ∀ y ∈ l, right y = true ∧ vmx y + esz x ≤ 90000) (hlen : o.length ≤ 1000000000) (hFx : ∀ k, some k ∈ Fx → k < gr) :
  Calls Tryz.prog 87 #[.pointer (some ⟨gr, 0, none⟩), .agg (Value.int .i64 k :: .int .i64 c :: (vc ++ xc)).toArray] w (StepPost er Fx w gr (Val.changeR x l o)) := by
 have hll := hr.lr.len
 have hle7 := hr.left
 obtain ⟨a', cap', e, h1, h2, h0, _, hs7⟩ := hr.left
 cases e
 have HR := Yq (fun (wx : World) (hb : Below w.heap.size w wx) => hr.keep hb)
 have HS := Yq (fun (w2 : World) (g : Nat) (hB : Blk w2 g (.int .i64 k :: .int .i64 c :: (vc ++ xc))) => (show w2.rangeAt g 9 xc from hB.range (p := .int .i64 k :: .int .i64 c :: vc) (q := xc) (r := []) (by simp) (by simp [hvc])))
 have HN := Yq (fun (wx : World) (hb : Below w.heap.size w wx) => next_any er wx (he.keep hb) gr av les.length cap 1 ov ((HR.out wx hb).blk) h1 h2 h0 (by decide))
 have HE := Yq (fun (wx : World) (hb : Below gr w wx) => he.below hG hb)
 have Hlt := Yq hr.blk.lt
 have HLx := Yq hx.shape.len
 cases l with
 | nil =>
  have hl0 : les.length = 0 := by rw [hll]; rfl
  have hK : Val.changeR x [] o = .bad 13 := rfl
  rw [hK]
  clear hr he h0 hs7 hll hx hK hle7 hlr
  go_enter Tryz.func87, Tryz.ntmps87
  go_wp2_with (first
   | (refine wpList_box_lay rfl 87 _ rfl _ rfl ?_; (intro w0 g0 hg0 hB0 hb0)))
  refine (HN.out _ hb0).mono ?_
  rintro e w1 ⟨hg1, hs1, hx⟩
  rw [if_pos (by omega)] at hx
  obtain ⟨rfl, hB1⟩ := hx
  have Hb1 : Hid (Below gr w w1) := Below.grown (hb0.mono (Nat.le_of_lt Hlt.out)) hg1 (Nat.le_trans (Nat.le_of_lt Hlt.out) hb0.size) (fun _ e => by cases e; exact Nat.le_refl _)
  clear hl0
  go_wp2_with fail
  all_goals
   go_ret
   exact ⟨Hb1.out, rfl⟩
 | cons y l' =>
  obtain ⟨a2, c2, eo, _⟩ := Row.of_owns hr.own
  subst eo
  have hl1 : 0 < les.length := by rw [hll]; simp
  have HX : Hid (VR (fragE w (some gr :: (Value.slice a2 o.length c2).ownBlock :: Fx)) y (les[0]'hl1)) := hr.lr.at (i := 0) (by simp) hl1
  have HD := Yq (fun (F : List (Option Nat)) (wx : World) (hF : ∀ k, some k ∈ F → k < wx.heap.size) (hE : ErrsAt er wx) (hle : FLe (fragE w (some gr :: (Value.slice a2 o.length c2).ownBlock :: Fx)) (fragE wx F)) => ih F x y xc _ wx hF hs hxr (hlr y (by simp)).1 hsm (hlr y (by simp)).2 hE (hx.mono hle) (HX.out.mono hle))
  have HLy := Yq HX.out.len
  have hx0 : ∀ (h : 0 < (les.take 1).length), (les.take 1)[0]'h = les[0]'hl1 := fun h => by simp
  clear hr he hs7 hx hlr hs
  generalize les[0]'hl1 = yc at *
  go_enter Tryz.func87, Tryz.ntmps87
  go_wp2_with (first
   | (refine wpList_box_lay rfl 87 _ rfl _ rfl ?_; (intro w0 g0 hg0 hB0 hb0)))
  refine (HN.out _ hb0).mono ?_
  rintro e w1 ⟨hg1, hs1, hx⟩
  rw [if_neg (by omega)] at hx
  obtain ⟨rfl, hB1⟩ := hx
  have H1 := Yq (HR.out _ hb0)
  have Hb1 : Hid (Below gr w w1) := Below.grown (hb0.mono (Nat.le_of_lt Hlt.out)) hg1 (Nat.le_trans (Nat.le_of_lt Hlt.out) hb0.size) (fun _ e => by cases e; exact Nat.le_refl _)
  have hle1 : FLe (fragE w0 (some gr :: (Value.slice a2 o.length c2).ownBlock :: Fx)) (fragE w1 (some gr :: (Value.slice a2 o.length c2).ownBlock :: Fx)) := grownE hg1 (.inr (by simp)) (fun _ h => .inl h)
  have Hle : Hid (FLe (fragE w (some gr :: (Value.slice a2 o.length c2).ownBlock :: Fx)) (fragE w1 (some gr :: (Value.slice a2 o.length c2).ownBlock :: Fx))) := (belowE hb0 (fun _ h => .inl h)).trans hle1
  have hF := ((hle7.mono Hle.out).take (k := 1) (by omega)).mono (fragE_le _ _)
  obtain ⟨b1, o1, hb1, hidx, hr1⟩ := FlatC.at hF (by decide) (i := 0) (by rw [List.length_take]; omega) Tryz.underlying24 sizeVs
  rw [hx0] at hr1
  have hr1 : w1.rangeAt b1 o1 yc := hr1
  rw [show ((0 : Nat) : Int) = 0 from rfl] at hidx
  have q1 := HS.out w1 _ (hB0.grown hg1 (fun e => by cases e; have := Hlt.out; omega))
  have Hown : Hid (w1.ownsRow (gr + 1) 27 7 (.slice a2 o.length c2) o.length oes.flatten) := H1.out.own.kept hg1 (.inr (fun e => H1.out.own_ne e.symm))
  have HB1 := Yq hB1
  have Hg1 := Yq hg1
  have HR1 : Hid (RowAt Fx w1 gr (partAt av cap 1 7) (les.length - 1) (cap - 1) (.slice a2 o.length c2) l' o (les.drop 1) oes) :=
   ⟨HB1.out, (hle7.mono Hle.out).drop (by omega), ((H1.out.lr.mono (grownE Hg1.out (.inr (by simp)) (fun _ h => .inl h))).part 1).2, Hown.out, H1.out.or.mono (grownE Hg1.out (.inr (by simp)) (fun _ h => .inl h))⟩
  have HF1 : Hid (∀ k, some k ∈ (some gr :: (Value.slice a2 o.length c2).ownBlock :: Fx) → k < w1.heap.size) := fun k hk => by
   have hgl := HB1.out.lt
   simp only [List.mem_cons, Option.some.injEq] at hk
   rcases hk with hk | hk | hk
   ·omega
   ·exact (Hown.out.lt k hk.symm).2
   ·exact Nat.lt_trans (hFx k hk) hgl
  have hg0l : g0 < w1.heap.size := Nat.lt_of_lt_of_le hB0.lt hg1.size
  have hb1l : b1 < w1.heap.size := hb1
  clear hB1 hs1 hg1 hle1 hF hB0
  go_wp2_with fail
  go_cut [6, 7] (fun s6 s7 F => ChRel er (some gr :: (Value.slice a2 o.length c2).ownBlock :: Fx) w1 (ado x y) s6 s7 F)
  case rest =>
   obtain ⟨g, hg, hs7, hbF, hrel⟩ := hcut
   subst hs7
   have HbF := Yq hbF
   have HbW : Hid (Below gr w wc) := Hb1.out.trans (hbF.mono (Nat.le_of_lt HB1.out.lt))
   have HR2 : Hid (RowAt Fx wc gr (partAt av cap 1 7) (les.length - 1) (cap - 1) (.slice a2 o.length c2) l' o (les.drop 1) oes) := HR1.out.keep hbF
   clear hbF q1 hr1
   cases hado : ado x y with
   | bad b =>
    rw [hado] at hrel
    replace hrel : u6 = er.of b := hrel
    have HK : Hid (Val.changeR x (y :: l') o = .bad b) := by
     show _ = _
     rw [changeR_cons]
     rw [hado]
    obtain ⟨et, ev, he⟩ := Errs.is er b
    rw [he] at hrel
    subst hrel
    have He := Yq he
    clear he hado
    go_wp2_with fail
    go_ret
    rw [HK.out]
    exact ⟨HbW.out, congrArg Ending.returned He.out.symm⟩
   | ok z =>
    rw [hado] at hrel
    obtain ⟨h6, zc, hBz, hVz⟩ := hrel
    subst h6
    have HP := Yq (fun (wx : World) (hb : Below wc.heap.size wc wx) => apart_any z zc wx ((hVz.mono (fragE_le _ _)).mono (below_le hb)))
    have HLz := Yq hVz.len
    have HVz := Yq hVz
    have HBz := Yq hBz
    have hzw := hBz.whole
    by_cases hk : 1 ≤ z.kind ∧ z.kind ≤ 3
    ·have HK : Hid (Val.changeR x (y :: l') o = .ok (l', o ++ [z])) := by
      show _ = _
      rw [changeR_cons]
      rw [hado]
      exact if_pos hk
     rw [decide_eq_true hk] at HP
     clear hk hado hVz hBz
     go_wp2_with (first
      | (refine wpList_load_seg rfl 27 _ rfl _ _ rfl _ _ (by assumption) Tryz.underlying27 rfl (iC infoV HLz) ?_)
      | (go_at_call 75; (with_reducible refine (HP.out _ (Below.refl _ _)).mono ?_); rintro e w2 ⟨rfl, hb2⟩; clear hzw; have HbX : Hid (Below gr w w2) := HbW.out.trans (hb2.mono (Nat.le_trans (Nat.le_of_lt HB1.out.lt) HbF.out.size)); have H3 := Yq (HR2.out.keep hb2); have HV3 := Yq (HVz.out.mono (belowE (E' := (some gr :: (Value.slice a2 o.length c2).ownBlock :: Fx)) hb2 (fun _ h => .inl (List.mem_cons_of_mem _ h)))); have hB3 := HBz.out.below hb2 HBz.out.lt))
     obtain ⟨vk, vn, vt, vr, b11, m1, d1, b2, m2, d2, b3, m3, d3, hzs⟩ := HVz.out.shape
     subst hzs
     have q0 : w2.cell? ⟨g, 0, none⟩ = some (.int .i64 vk) := hB3.cell rfl
     have q1 : w2.cell? ⟨g, 1, none⟩ = some (.int .u64 vn) := hB3.cell rfl
     have q2 : w2.cell? ⟨g, 2, none⟩ = some (.string vt) := hB3.cell rfl
     have q3 : w2.cell? ⟨g, 3, none⟩ = some (.slice b11 m1 d1) := hB3.cell rfl
     have q4 : w2.cell? ⟨g, 4, none⟩ = some (.string vr) := hB3.cell rfl
     have q5 : w2.cell? ⟨g, 5, none⟩ = some (.slice b2 m2 d2) := hB3.cell rfl
     have q6 : w2.cell? ⟨g, 6, none⟩ = some (.slice b3 m3 d3) := hB3.cell rfl
     have z1 := H3.out.blk.cell (o := 1) rfl
     have zf := H3.out.blk.frozen 1
     have hzg0 := hB3.lt
     have hzgr := H3.out.blk.lt
     clear hB3 hidx hg0l hb1l hb1 hg0 hg
     obtain ⟨i0, hi0, hi1, hi2, hi3⟩ := info_parts T_val.info
     have Hi := Yq (And.intro hi0 (And.intro hi1 (And.intro hi2 hi3)))
     have Hown3 := Yq H3.out.own
     have Hz : Hid ((o.length + 1) * 120 ≤ 140737488355328) := by show _ ≤ _; omega
     have Hm : Hid (o.length + 1 ≤ maxLen) := by show _ ≤ _; unfold maxLen; omega
     have Hgr : Hid (gr + 1 ≤ (w2.alloc (.cells zV.toArray 27)).heap.size) := by show _ ≤ _; simp; omega
     have Hnew : Hid (∀ j u, zV[j]? = some u → (w2.alloc (.cells zV.toArray 27)).cell? ((⟨w2.heap.size, 0, none⟩ : Addr).add j) = some u) := World.news_of_block (heap_alloc_new w2 _)
     have Hxl : Hid (oes.flatten.length = o.length * 7) := by
      show _ = _
      have := H3.out.own.1; omega
     have Hzf : Hid (∀ wy, (w2.alloc (.cells zV.toArray 27)).grownBy wy (Value.slice a2 o.length c2).ownBlock → wy.frozen? ⟨gr, 1, none⟩ = false ∧ wy.cell? ⟨gr, 1, none⟩ = some (.slice a2 o.length c2)) := fun wy hg => by
      have hB := (H3.out.blk.alloc (.cells zV.toArray 27)).grown hg H3.out.own_ne
      exact ⟨hB.frozen 1, hB.cell rfl⟩
     have hl1 : (o.length : Int) < (o.length : Int) + 1 := by omega
     clear hi0 hi1 hi2 hi3 hlen
     go_cut [] (fun wx => StepPost er Fx w gr (.ok (l', o ++ [z])) (.returned .nilIface) wx)
     case rest =>
      have HC := Yq hcut
      clear hcut
      go_wp2_with fail
      go_ret
      rw [HK.out]
      exact HC.out
     go_region_law (((refine step_append_lies _ (by rfl) (.tmp 37) (.tmp 40) 24 (by rfl) (gr + 1) 27 i0 (.agg zV.toArray) 7 120 Tryz.underlying24 Hi.out.1 Hi.out.2.1 Hi.out.2.2.1 Hi.out.2.2.2 rfl (by decide) (.slice a2 o.length c2) o.length oes.flatten (by rfl) (Hown3.out.alloc _) ⟨w2.heap.size, 0, none⟩ 1 1 zV (by rfl) rfl Hnew.out zV_one (by decide) Hm.out Hz.out Hgr.out (w2.heap.size + 1) (by simp) ?_); (intro g2 c3 w3 ho2 hg2 hat hl2; have hE := own_elem ho2 Hxl.out; obtain ⟨⟨e0, e1, e2, e3, e4, e5, e6⟩, f0, f1, f2, f3, f4, f5, f6⟩ := hE; obtain ⟨zf2, z2⟩ := Hzf.out w3 ⟨hg2.os, hg2.tape, hg2.output, hg2.size, hg2.block⟩; have hn1 := own_neq ho2; have hn2 := own_neq' ho2)))
     iterate 6
      ·clear q0 q1 q2 q3 q4 q5 q6 z1 zf e0 e1 e2 e3 e4 e5 e6 f0 f1 f2 f3 f4 f5 f6 z2 zf2 hn1 hn2 hl1 hl2
       go_wp2_with fail
       go_meet
       have hP := put_done HbX.out H3.out HV3.out (grown_trans' hg2) hat ho2 Hxl.out er
       refine hP _ (.inl ?_)
       unfold elset
       with_reducible rfl
      ·clear q0 q1 q2 q3 q4 q5 q6 z1 zf e0 e1 e2 e3 e4 e5 e6 f0 f1 f2 f3 f4 f5 f6 z2 zf2 hn1 hn2 hl1 hl2
       go_wp2_with fail
       go_meet
       have hP := put_done HbX.out H3.out HV3.out (grown_trans' hg2) hat ho2 Hxl.out er
       refine hP _ (.inr ?_)
       unfold elset
       with_reducible rfl
    ·have HK : Hid (Val.changeR x (y :: l') o = .bad 12) := by
      show _ = _
      rw [changeR_cons]
      rw [hado]
      exact if_neg hk
     rw [decide_eq_false hk] at HP
     clear hk hado hVz hBz
     go_wp2_with (first
      | (refine wpList_load_seg rfl 27 _ rfl _ _ rfl _ _ (by assumption) Tryz.underlying27 rfl (iC infoV HLz) ?_)
      | (go_at_call 75; (with_reducible refine (HP.out _ (Below.refl _ _)).mono ?_); rintro e w2 ⟨rfl, hb2⟩; clear hzw; have HbX : Hid (Below gr w w2) := HbW.out.trans (hb2.mono (Nat.le_trans (Nat.le_of_lt HB1.out.lt) HbF.out.size)); have hE := (HE.out _ HbX.out).k))
     go_ret
     rw [HK.out]
     exact ⟨HbX.out, rfl⟩
  have hS0 : (fun w' : World => w'.rangeAt g0 9 xc ∧ w'.rangeAt b1 o1 yc ∧ Below w1.heap.size w1 w') w1.drew := ⟨q1, hr1, (Below.refl _ _).drew⟩
  refine wp_region_held_drew (S := fun w' => w'.rangeAt g0 9 xc ∧ w'.rangeAt b1 o1 yc ∧ Below w1.heap.size w1 w') (by kernel_rfl) hS0 (fun hS => ?_)
  refine wpAnyH_take (i := 0) (v := .pointer (some ⟨g0, 9, none⟩)) rfl (by kernel_rfl) (by kernel_rfl) (by kernel_rfl) (fun _ _ _ h => h) (.inl ⟨by rfl, fun w hw => by go_simp⟩) hS ?_
  refine wpAnyH_take (i := 1) (v := .agg xc.toArray) rfl (by kernel_rfl) (by kernel_rfl) (by kernel_rfl) (fun _ _ _ h => h) (yieldsIf_load_mid (by rfl) 32 _ rfl g0 9 rfl xc _ (fun w h => h.1) Tryz.underlying32 rfl (iC infoE HLx)) hS ?_
  refine wpAnyH_take (i := 2) (v := .slice av 1 cap) rfl (by kernel_rfl) (by kernel_rfl) (by kernel_rfl) (fun _ _ _ h => h) (.inl ⟨by rfl, fun w hw => by go_simp⟩) hS ?_
  refine wpAnyH_take (i := 3) (v := .pointer (some ⟨b1, o1, none⟩)) rfl (by kernel_rfl) (by kernel_rfl) (by kernel_rfl) (fun _ _ _ h => h) (.inl ⟨by rfl, fun w hw => by go_simp⟩) hS ?_
  refine wpAnyH_take (i := 4) (v := .agg yc.toArray) rfl (by kernel_rfl) (by kernel_rfl) (by kernel_rfl) (fun _ _ _ h => h) (yieldsIf_load_mid (by rfl) 27 _ rfl b1 o1 rfl yc _ (fun w h => h.2.1) Tryz.underlying27 rfl (iC infoV HLy)) hS ?_
  refine wpAnyH_ready (rs := [5, 9]) (by kernel_rfl) (by simp) ?_
  refine AllReadyH.cons rfl (fun K hK => ?_) ?_
  ·go_simp
   refine (HD.out (some gr :: (Value.slice a2 o.length c2).ownBlock :: Fx) w1.drew HF1.out (HE.out _ Hb1.out.drew) Hle.out).mono ?_
   rintro e w2 hR
   obtain ⟨cs, ev, rfl, hcl, hc1, hbR, hV⟩ := RetR.form hR
   have hb12 : Below w1.heap.size w1 w2 := (Below.refl _ _).drew.trans hbR
   have hS2 : w2.rangeAt g0 9 xc ∧ w2.rangeAt b1 o1 yc ∧ Below w1.heap.size w1 w2 := ⟨range_below q1 hb12 hg0l, range_below hr1 hb12 hb1l, hb12⟩
   refine hK.out _ _ hS2 (fun hS3 => ?_)
   refine wpAnyH_take (i := 6) (v := .tuple #[.agg cs.toArray, ev]) rfl (by kernel_rfl) (by kernel_rfl) (by kernel_rfl) (fun _ _ _ h => h) (.inl ⟨by rfl, fun w hw => by go_simp⟩) hS3 ?_
   refine wpAnyH_take (i := 7) (v := .agg cs.toArray) rfl (by kernel_rfl) (by kernel_rfl) (by kernel_rfl) (fun _ _ _ h => h) (.inl ⟨by rfl, fun w hw => by go_simp⟩) hS3 ?_
   refine wpAnyH_take (i := 8) (v := ev) rfl (by kernel_rfl) (by kernel_rfl) (by kernel_rfl) (fun _ _ _ h => h) (.inl ⟨by rfl, fun w hw => by go_simp⟩) hS3 ?_
   refine wpAnyH_ready (rs := [9]) (by kernel_rfl) (by simp) ?_
   refine AllReadyH.cons rfl (fun K hK => ?_) AllReadyH.nil
   go_simp
   have hBn : Blk (w2.alloc (.cells zV.toArray 27)) w2.heap.size zV := Blk.new w2 _ zV
   have hbA : Below w1.heap.size w1 (w2.alloc (.cells zV.toArray 27)) := hb12.alloc hb12.size _
   have hS4 : (w2.alloc (.cells zV.toArray 27)).rangeAt g0 9 xc ∧ (w2.alloc (.cells zV.toArray 27)).rangeAt b1 o1 yc ∧ Below w1.heap.size w1 (w2.alloc (.cells zV.toArray 27)) := ⟨range_below q1 hbA hg0l, range_below hr1 hbA hb1l, hbA⟩
   refine hK.out _ _ hS4 (fun hS5 => ?_)
   refine wpAnyH_ready (rs := [10]) (by kernel_rfl) (by simp) ?_
   refine AllReadyH.cons rfl (fun K hK => ?_) AllReadyH.nil
   rw [if_pos (by rfl)]
   refine wp_store_blk 27 _ _ rfl w2.heap.size 0 _ cs zV rfl rfl rfl hBn (infoV.trans (congrArg some hcl.symm)) (by rw [hcl]; decide) hc1 ?_
   have hg5 := setRow_grown (w := w2.alloc (.cells zV.toArray 27)) (g := w2.heap.size) (patch zV 0 cs).toArray
   have hB5 : Blk ((w2.alloc (.cells zV.toArray 27)).setRow w2.heap.size (patch zV 0 cs).toArray) w2.heap.size cs := by
    have e : patch zV 0 cs = cs := by unfold patch; simp; rw [hcl]; decide
    have := hBn.set (patch zV 0 cs)
    rw [e] at this ⊢; exact this
   have hbF : Below w1.heap.size w1 ((w2.alloc (.cells zV.toArray 27)).setRow w2.heap.size (patch zV 0 cs).toArray) := Below.grown hbA hg5 hbA.size (fun _ e => by cases e; exact hb12.size)
   have hleF : FLe (fragE w2 (some gr :: (Value.slice a2 o.length c2).ownBlock :: Fx)) (fragE ((w2.alloc (.cells zV.toArray 27)).setRow w2.heap.size (patch zV 0 cs).toArray) (some w2.heap.size :: some gr :: (Value.slice a2 o.length c2).ownBlock :: Fx)) :=
    (grownE (E' := (some w2.heap.size :: some gr :: (Value.slice a2 o.length c2).ownBlock :: Fx)) (World.grownBy_alloc w2 _ none) (.inl rfl) (fun k hk => by
     rcases List.mem_cons.1 hk with hk | hk
     ·right; cases hk; exact Nat.le_refl _
     ·exact .inl hk)).trans (grownE hg5 (.inr (by simp)) (fun _ h => .inl h))
   have hRel := hV.rel (g := w2.heap.size) hleF hb12.size hbF hB5
   refine hK.out _ _ ⟨range_below q1 hbF hg0l, range_below hr1 hbF hb1l, hbF⟩ (fun hS7 => ?_)
   refine wpAnyH_take (i := 11) (v := ev) rfl (by kernel_rfl) (by kernel_rfl) (by kernel_rfl) (fun _ _ _ h => h) (.inl ⟨by rfl, fun w hw => by go_simp⟩) hS7 ?_
   refine wpAnyH_done (by kernel_rfl) ?_ _
   have HRel := Yq hRel
   clear hRel hS7 hbF hleF hB5 hg5 hS5 hS4 hbA hBn hS2 hS3 hK
   go_wp2_with fail
   go_meet
   exact HRel.out
  ·refine AllReadyH.cons rfl (fun K hK => ?_) AllReadyH.nil
   go_simp
   have hbA : Below w1.heap.size w1 ((w1.alloc (.cells zV.toArray 27)).drew) := ((Below.refl _ _).alloc (Nat.le_refl _) _).drew
   have hBn : Blk ((w1.alloc (.cells zV.toArray 27)).drew) w1.heap.size zV := Blk.new w1 _ zV
   refine hK.out _ _ ⟨range_below q1 hbA hg0l, range_below hr1 hbA hb1l, hbA⟩ (fun hS2 => ?_)
   refine wpAnyH_ready (rs := [5]) (by kernel_rfl) (by simp) ?_
   refine AllReadyH.cons rfl (fun K hK => ?_) AllReadyH.nil
   go_simp
   have hleA : FLe (fragE w1 (some gr :: (Value.slice a2 o.length c2).ownBlock :: Fx)) (fragE ((w1.alloc (.cells zV.toArray 27)).drew) (some w1.heap.size :: some gr :: (Value.slice a2 o.length c2).ownBlock :: Fx)) :=
    grownE (w' := w1.alloc (.cells zV.toArray 27)) (World.grownBy_alloc w1 _ none) (.inl rfl) (fun k hk => by
     rcases List.mem_cons.1 hk with hk | hk
     ·right; cases hk; exact Nat.le_refl _
     ·exact .inl hk)
   have hF2 : ∀ k, some k ∈ (some w1.heap.size :: some gr :: (Value.slice a2 o.length c2).ownBlock :: Fx) → k < ((w1.alloc (.cells zV.toArray 27)).drew).heap.size := fun k hk => by
    have h1 : ((w1.alloc (.cells zV.toArray 27)).drew).heap.size = w1.heap.size + 1 := World.size_alloc _ _
    rcases List.mem_cons.1 hk with hk | hk
    ·cases hk; omega
    ·have := HF1.out k hk; omega
   refine (HD.out (some w1.heap.size :: some gr :: (Value.slice a2 o.length c2).ownBlock :: Fx) ((w1.alloc (.cells zV.toArray 27)).drew) hF2 (HE.out _ (Hb1.out.trans (hbA.mono (Nat.le_of_lt HB1.out.lt)))) (Hle.out.trans hleA)).mono ?_
   rintro e w2 hR
   obtain ⟨cs, ev, rfl, hcl, hc1, hbR, hV⟩ := RetR.form hR
   have hb12 : Below w1.heap.size w1 w2 := hbA.trans (hbR.mono hbA.size)
   have hB2 : Blk w2 w1.heap.size zV := hBn.below hbR hBn.lt
   refine hK.out _ _ ⟨range_below q1 hb12 hg0l, range_below hr1 hb12 hb1l, hb12⟩ (fun hS3 => ?_)
   refine wpAnyH_take (i := 6) (v := .tuple #[.agg cs.toArray, ev]) rfl (by kernel_rfl) (by kernel_rfl) (by kernel_rfl) (fun _ _ _ h => h) (.inl ⟨by rfl, fun w hw => by go_simp⟩) hS3 ?_
   refine wpAnyH_take (i := 7) (v := .agg cs.toArray) rfl (by kernel_rfl) (by kernel_rfl) (by kernel_rfl) (fun _ _ _ h => h) (.inl ⟨by rfl, fun w hw => by go_simp⟩) hS3 ?_
   refine wpAnyH_take (i := 8) (v := ev) rfl (by kernel_rfl) (by kernel_rfl) (by kernel_rfl) (fun _ _ _ h => h) (.inl ⟨by rfl, fun w hw => by go_simp⟩) hS3 ?_
   refine wpAnyH_ready (rs := [10]) (by kernel_rfl) (by simp) ?_
   refine AllReadyH.cons rfl (fun K hK => ?_) AllReadyH.nil
   rw [if_pos (by rfl)]
   refine wp_store_blk 27 _ _ rfl w1.heap.size 0 _ cs zV rfl rfl rfl hB2 (infoV.trans (congrArg some hcl.symm)) (by rw [hcl]; decide) hc1 ?_
   have hg5 := setRow_grown (w := w2) (g := w1.heap.size) (patch zV 0 cs).toArray
   have hB5 : Blk (w2.setRow w1.heap.size (patch zV 0 cs).toArray) w1.heap.size cs := by
    have e : patch zV 0 cs = cs := by unfold patch; simp; rw [hcl]; decide
    have := hB2.set (patch zV 0 cs)
    rw [e] at this ⊢; exact this
   have hbF : Below w1.heap.size w1 (w2.setRow w1.heap.size (patch zV 0 cs).toArray) := Below.grown hb12 hg5 hb12.size (fun _ e => by cases e; exact Nat.le_refl _)
   have hRel := hV.rel (w1 := w1) (g := w1.heap.size) (E := (some gr :: (Value.slice a2 o.length c2).ownBlock :: Fx)) (grownE hg5 (.inr (by simp)) (fun _ h => .inl h)) (Nat.le_refl _) hbF hB5
   refine hK.out _ _ ⟨range_below q1 hbF hg0l, range_below hr1 hbF hb1l, hbF⟩ (fun hS7 => ?_)
   refine wpAnyH_take (i := 11) (v := ev) rfl (by kernel_rfl) (by kernel_rfl) (by kernel_rfl) (fun _ _ _ h => h) (.inl ⟨by rfl, fun w hw => by go_simp⟩) hS7 ?_
   refine wpAnyH_done (by kernel_rfl) ?_ _
   have HRel := Yq hRel
   clear hRel hS7 hbF hB5 hg5 hbA hBn hS2 hS3 hK hB2
   go_wp2_with fail
   go_meet
   exact HRel.out
end Go.Proofs.YtebekgdjknenlaaGreatDoor
namespace Go.Proofs.YtebekgdjknenlaaGreatDoor
open Go.RowKit
open Val (V E cmp right eright esm v0 Res ado adoS get find withV putV vmx esz partB stepB)
variable {Fx : List (Option Nat)}
def Val.stepR (k c : Int) (v : V) (e : E) (l o : List V) : Res (List V × List V) :=
 if k = 1 then Val.keepR c.toNat l o else if k = 2 then Val.dropR v l o else if k = 3 then .ok (l, o ++ [v]) else Val.changeR e l o
theorem Val.adoS_step (k c : Int) (v : V) (e : E) (r : List (Int × Int × V × E)) (l o : List V) (hc : k = 1 → 0 ≤ c) : adoS ((k, c, v, e) :: r) l o = match Val.stepR k c v e l o with
  | .bad b => .bad b
  | .ok p => adoS r p.1 p.2 := by
 rw [adoS.eq_def]
 unfold Val.stepR Val.keepR Val.dropR Val.changeR
 simp only []
 by_cases h1 : k = 1
 ·rw [if_pos h1, if_pos h1]
  have := hc h1
  by_cases h : (l.length : Int) < c
  ·rw [if_pos h, if_pos (by omega)]
  ·rw [if_neg h, if_neg (by omega)]
 ·rw [if_neg h1, if_neg h1]
  by_cases h2 : k = 2
  ·rw [if_pos h2, if_pos h2]
   cases l with
   | nil => rfl
   | cons x l' =>
    simp only []
    by_cases h : cmp x v = 0
    ·rw [if_pos h, if_pos h]
    ·rw [if_neg h, if_neg h]
  ·rw [if_neg h2, if_neg h2]
   by_cases h3 : k = 3
   ·rw [if_pos h3, if_pos h3]
   ·rw [if_neg h3, if_neg h3]
    cases l with
    | nil => rfl
    | cons x l' =>
     simp only []
     cases ado e x with
     | bad b => rfl
     | ok y =>
      simp only []
      by_cases h : 1 ≤ y.kind ∧ y.kind ≤ 3
      ·rw [if_pos h, if_pos h]
      ·rw [if_neg h, if_neg h]
def fnOf (k : Int) : Nat := if k = 1 then 84 else if k = 2 then 85 else if k = 3 then 86 else 87
theorem of_any (k : Int) (w : World) : Calls Tryz.prog 73 #[.int .i64 k] w fun e w' => e = .returned (.func (.func (fnOf k)) #[] #[]) ∧ w' = w := by
 go_enter Tryz.func73, Tryz.ntmps73
 go_wp2_with fail
 all_goals
  go_ret
  refine ⟨?_, rfl⟩
  simp_all [fnOf]
theorem run_fnOf (k : Int) (args : Array Value) (w : World) : (callFunc (fnOf k) args).run Tryz.prog w = .ok (.enter (fnOf k) args) w := by
 unfold fnOf
 split
 ·exact Tryz.call84 _ _
 ·split
  ·exact Tryz.call85 _ _
  ·split
   ·exact Tryz.call86 _ _
   ·exact Tryz.call87 _ _
theorem step_fn (er : Errs) (N : Nat) (ih : DoAt er N) (w : World) (he : ErrsAt er w) (gr : Nat) (hG : ErrsLt gr) (av : Option Addr) (n cap : Nat) (ov : Value) (l o : List V) (les oes : List (List Value)) (hr : RowAt Fx w gr av n cap ov l o les oes) (k c : Int) (v : V) (e : E) (vc xc : List Value)
  (hv : VR (fragE w (some gr :: ov.ownBlock :: Fx)) v vc) (hx : ER (fragE w (some gr :: ov.ownBlock :: Fx)) e xc) (hst : stepB k c v e) (hs : SizeOf.sizeOf e < N) (hsm : esm e) (hlr : ∀ y ∈ l, right y = true ∧ vmx y + esz e ≤ 90000) (hlen : l.length + o.length ≤ 1000000000) (hFx : ∀ k, some k ∈ Fx → k < gr) :
  Calls Tryz.prog (fnOf k) #[.pointer (some ⟨gr, 0, none⟩), .agg (Value.int .i64 k :: .int .i64 c :: (vc ++ xc)).toArray] w (StepPost er Fx w gr (Val.stepR k c v e l o)) := by
 have hL : o.length ≤ 1000000000 := by omega
 rcases hst with ⟨rfl, h1, h2⟩ | ⟨rfl, h1⟩ | ⟨rfl, h1⟩ | ⟨rfl, h1⟩
 ·obtain ⟨m, rfl⟩ := Int.eq_ofNat_of_zero_le (show 0 ≤ c by omega)
  exact keep_any er w he gr av n cap ov l o les oes hr 1 m (vc ++ xc) (by omega) hlen
 ·exact drop_any er w he gr hG av n cap ov l o les oes hr 2 c v vc xc hv
 ·exact put_any' er w gr av n cap ov l o les oes hr 3 c v vc xc hv hL
 ·exact change_at er N ih w he gr hG av n cap ov l o les oes hr 4 c vc hv.len e xc hx hs h1 hsm hlr hL hFx
end Go.Proofs.YtebekgdjknenlaaGreatDoor
namespace Go.Proofs.YtebekgdjknenlaaGreatDoor
open Go.RowKit
open Val (V E cmp right eright esm esmS v0 Res ado adoS get find withV putV vmx vmxL esz eszS partB stepB allS mkL)
def Val.rowR (e : E) (v : V) : Res V := if v.kind = 4 ∨ v.kind = 0 then (match adoS e.steps v.list [] with
   | .bad b => .bad b
   | .ok p => if 0 < p.1.length then .bad 13 else .ok (mkL p.2)) else .bad 13
theorem Val.stepR_le {k c : Int} {v : V} {e : E} {l o : List V} {p : List V × List V} (h : Val.stepR k c v e l o = .ok p) : (∀ y ∈ p.1, y ∈ l) ∧ p.2.length + p.1.length ≤ o.length + l.length + 1 := by
 unfold Val.stepR Val.keepR Val.dropR Val.changeR at h
 split at h
 ·split at h
  ·cases h
  ·cases h
   exact ⟨fun y hy => List.mem_of_mem_drop hy, by simp only [List.length_append, List.length_drop, List.length_take]; omega⟩
 ·split at h
  ·split at h
   ·cases h
   ·split at h
    ·cases h
     exact ⟨fun y hy => List.mem_cons_of_mem _ hy, by simp only [List.length_cons]; omega⟩
    ·cases h
  ·split at h
   ·cases h
    exact ⟨fun y hy => hy, by simp only [List.length_append, List.length_cons, List.length_nil]; omega⟩
   ·split at h
    ·cases h
    ·split at h
     ·cases h
     ·split at h
      ·cases h
       exact ⟨fun y hy => List.mem_cons_of_mem _ hy, by simp only [List.length_append, List.length_cons, List.length_nil]; omega⟩
      ·cases h
def RowInv (s : List (Int × Int × V × E)) (v : V) (k : Nat) (l o : List V) : Prop :=
 adoS s v.list [] = adoS (s.drop k) l o ∧ (∀ y ∈ l, y ∈ v.list) ∧ o.length + l.length ≤ v.list.length + k
theorem RowInv.start (s : List (Int × Int × V × E)) (v : V) : RowInv s v 0 v.list [] := ⟨by simp, fun _ h => h, by simp⟩
theorem RowInv.drop {s : List (Int × Int × V × E)} {v : V} {k : Nat} {l o : List V} (h : RowInv s v k l o) (hk : k < s.length) (hst : allS s) : adoS s v.list [] = match Val.stepR s[k].1 s[k].2.1 s[k].2.2.1 s[k].2.2.2 l o with
  | .bad b => .bad b
  | .ok p => adoS (s.drop (k + 1)) p.1 p.2 := by
 rw [h.1, List.drop_eq_getElem_cons hk]
 have := hst _ (List.getElem_mem hk)
 generalize s[k] = q at *
 obtain ⟨a, b, c, d⟩ := q
 exact Val.adoS_step a b c d _ l o (fun e => by
  rcases this with ⟨_, h1, _⟩ | ⟨h1, _⟩ | ⟨h1, _⟩ | ⟨h1, _⟩
  ·show 0 ≤ b; have h1 : 1 ≤ b := h1; omega
  all_goals (have h1 : a = _ := h1; omega))
theorem RowInv.step {s : List (Int × Int × V × E)} {v : V} {k : Nat} {l o l' o' : List V} (h : RowInv s v k l o) (hk : k < s.length) (hst : allS s) (hr : Val.stepR s[k].1 s[k].2.1 s[k].2.2.1 s[k].2.2.2 l o = .ok (l', o')) : RowInv s v (k + 1) l' o' := by
 have h2 := Val.stepR_le hr
 refine ⟨?_, fun y hy => h.2.1 y (h2.1 y hy), ?_⟩
 ·rw [h.drop hk hst, hr]
 ·have h3 := h.2.2
  have h4 : o'.length + l'.length ≤ o.length + l.length + 1 := h2.2
  omega
theorem RowInv.bad {s : List (Int × Int × V × E)} {v : V} {k b : Nat} {l o : List V} (h : RowInv s v k l o) (hk : k < s.length) (hst : allS s) (hr : Val.stepR s[k].1 s[k].2.1 s[k].2.2.1 s[k].2.2.2 l o = .bad b) : adoS s v.list [] = .bad b := by
 rw [h.drop hk hst, hr]
theorem RowInv.fin {s : List (Int × Int × V × E)} {v : V} {l o : List V} (h : RowInv s v s.length l o) : adoS s v.list [] = .ok (l, o) := by
 rw [h.1, List.drop_length, adoS]
theorem Val.eszS_at : ∀ {s : List (Int × Int × V × E)} {k : Nat} (hk : k < s.length), esz s[k].2.2.2 ≤ eszS s ∧ s.length ≤ eszS s
 | (a, b, c, d) :: r, 0, hk => by
  rw [eszS]
  have h2 : r.length ≤ eszS r := by
   cases r with
   | nil => simp
   | cons q r => exact (Val.eszS_at (s := q :: r) (k := 0) (by simp)).2
  simp only [List.getElem_cons_zero, List.length_cons]
  omega
 | (a, b, c, d) :: r, k + 1, hk => by
  rw [eszS]
  have h2 := Val.eszS_at (s := r) (k := k) (by simpa using hk)
  simp only [List.getElem_cons_succ, List.length_cons]
  omega
end Go.Proofs.YtebekgdjknenlaaGreatDoor
