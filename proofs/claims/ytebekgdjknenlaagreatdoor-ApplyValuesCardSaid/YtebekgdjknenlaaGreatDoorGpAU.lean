/- What apply's walks share: the errors, what is answered; apply.part, swap. -/
import Derived.Test.YtebekgdjknenlaaGreatDoorGpAT
import Derived.Test.YtebekgdjknenlaaGreatDoorRef21d
set_option maxRecDepth 100000
set_option maxHeartbeats 8000000
set_option linter.unusedVariables false
set_option linter.unusedSimpArgs false
namespace Go.Proofs.YtebekgdjknenlaaGreatDoor
open Go.RowKit
open Val (V E cmp right eright esm v0 Res ado get find withV putV)
structure Errs where
 tf : TypeId
 vf : Value
 tk : TypeId
 vk : Value
 tc : TypeId
 vc : Value
abbrev Errs.f (er : Errs) : Value := .iface er.tf er.vf
abbrev Errs.k (er : Errs) : Value := .iface er.tk er.vk
abbrev Errs.c (er : Errs) : Value := .iface er.tc er.vc
def Errs.of (er : Errs) (n : Nat) : Value := if n = 9 then er.f else if n = 12 then er.k else er.c
structure ErrsAt (er : Errs) (w : World) : Prop where
 f : w.cell? ⟨0, 0, none⟩ = some (.iface er.tf er.vf)
 k : w.cell? ⟨11, 0, none⟩ = some (.iface er.tk er.vk)
 c : w.cell? ⟨12, 0, none⟩ = some (.iface er.tc er.vc)
theorem ErrsAt.keep {er : Errs} {w w' : World} (h : ErrsAt er w) (hb : Below w.heap.size w w') : ErrsAt er w' :=
 ⟨(hb.cell (World.block_lt_of_cell? w _ h.f)).trans h.f, (hb.cell (World.block_lt_of_cell? w _ h.k)).trans h.k, (hb.cell (World.block_lt_of_cell? w _ h.c)).trans h.c⟩
structure ErrsLt (g : Nat) : Prop where
 f : 0 < g
 k : 11 < g
 c : 12 < g
theorem ErrsAt.lt {er : Errs} {w : World} (h : ErrsAt er w) : ErrsLt w.heap.size := ⟨World.block_lt_of_cell? w _ h.f, World.block_lt_of_cell? w _ h.k, World.block_lt_of_cell? w _ h.c⟩
theorem ErrsLt.mono {g g' : Nat} (h : ErrsLt g) (hg : g ≤ g') : ErrsLt g' := ⟨Nat.lt_of_lt_of_le h.f hg, Nat.lt_of_lt_of_le h.k hg, Nat.lt_of_lt_of_le h.c hg⟩
theorem ErrsAt.below {er : Errs} {w w' : World} {g : Nat} (h : ErrsAt er w) (hg : ErrsLt g) (hb : Below g w w') : ErrsAt er w' :=
 ⟨(hb.cell hg.f).trans h.f, (hb.cell hg.k).trans h.k, (hb.cell hg.c).trans h.c⟩
def Val.keepR (c : Nat) (l o : List V) : Res (List V × List V) := if l.length < c then .bad 13 else .ok (l.drop c, o ++ l.take c)
def Val.dropR (v : V) (l o : List V) : Res (List V × List V) := match l with
 | [] => .bad 13
 | x :: l' => if cmp x v = 0 then .ok (l', o) else .bad 13
def Val.changeR (e : E) (l o : List V) : Res (List V × List V) := match l with
 | [] => .bad 13
 | x :: l' => match ado e x with
  | .bad b => .bad b
  | .ok y => if 1 ≤ y.kind ∧ y.kind ≤ 3 then .ok (l', o ++ [y]) else .bad 12
def RetR (er : Errs) (E : List (Option Nat)) (w : World) (r : Res V) (e : Ending) (w' : World) : Prop :=
 Below w.heap.size w w' ∧ match r with
 | .bad n => e = .returned (.tuple #[.agg zV.toArray, er.of n])
 | .ok x => ∃ xc, e = .returned (.tuple #[.agg xc.toArray, .nilIface]) ∧ VR (fragE w' E) x xc
theorem wpStill_load_seg {P : Program} {ops : Array Oper} {rest : List Oper} {op : Oper} {a : Act} {w : World} {Q : Act → Prop} (hgd : Region.wanted op (yielded ops a.tmps) = true) (ty : TypeId) (x : Operand) (ho : op.op = .load ty x)
  (b o : Nat) (hx : a.eval x = .pointer (some ⟨b, o, none⟩)) (cs : List Value) (d : TypeDesc) (hc : w.rangeAt b o cs)
  (hu : P.underlying ty = some d) (hd : d.isRow = true) (hi : (P.info? ty).map (·.size) = some cs.length)
  (h : wpStill P ops w Q rest (a.put op.dst (.agg cs.toArray))) : wpStill P ops w Q (op :: rest) a := by
 unfold wpStill
 rw [if_pos hgd]
 unfold Oper.still execOp
 simp only [ho, hx, Instr.loadAt, Instr.sureAddr, Sem.run_bind, Sem.run_pure, Result.andThen_ok, run_loadVar_mid w b o ty cs d hc hu hd hi]
 exact ⟨rfl, h⟩
theorem results2_blk {P : Program} {fn : Func} {p q : Tmp} {ty : TypeId} (h : fn.results = #[.cell p ty, .tmp q]) (tmps : Array Value) (w : World) (g : Nat) (cs : List Value) (v : Value) (hp : tmps.getD p undef = .pointer (some ⟨g, 0, none⟩)) (hq : tmps.getD q undef = v) (hb : Blk w g cs) (d : TypeDesc)
  (hu : P.underlying ty = some d) (hd : (match d with | .struct _ | .array _ _ => true | _ => false) = true) (hi : (P.info? ty).map (·.size) = some cs.length) :
  (results fn tmps).run P w = .ok (.tuple #[.agg cs.toArray, v]) w := by
 obtain ⟨t, hb⟩ := hb
 have hp' : tmps[p]?.getD undef = .pointer (some ⟨g, 0, none⟩) := by simpa using hp
 have hq' : tmps[q]?.getD undef = v := by simpa using hq
 simp [results, h, hp', hq', asAddr, run_loadVar_row w g t ty cs.toArray (0, 0) d hb hu hd (by simpa using hi)]
theorem Blk.setC {w : World} {g i : Nat} {cs ds : List Value} {v : Value} (h : Blk w g cs) (e : cs.set i v = ds) : Blk (w.setCell ⟨g, i, none⟩ v) g ds := by
 obtain ⟨t, h⟩ := h
 refine ⟨t, ?_⟩
 rw [heap_setCell_same w g i _ t v h]
 simp [← e]
theorem Blk.other {w : World} {g b : Nat} {cs : List Value} {a : Addr} (h : Blk w g cs) (v : Value) (hne : g ≠ a.block) : Blk (w.setCell a v) g cs := by
 obtain ⟨t, h⟩ := h
 exact ⟨t, (heap_setCell_other w a g v hne).trans h⟩
theorem Blk.drew {w : World} {g : Nat} {cs : List Value} (h : Blk w g cs) : Blk w.drew g cs := h
theorem zV_one : ∀ u ∈ zV, u.oneCell' = true := by simp [zV, Value.oneCell']
theorem Blk.zero {w : World} {g : Nat} (h : Blk w g zV) : (w.cell? ⟨g, 0, none⟩ = some (.int .i64 0) ∧ w.cell? ⟨g, 1, none⟩ = some (.int .u64 0) ∧ w.cell? ⟨g, 2, none⟩ = some (.string ⟨#[]⟩) ∧ w.cell? ⟨g, 3, none⟩ = some (.slice none 0 0) ∧ w.cell? ⟨g, 4, none⟩ = some (.string ⟨#[]⟩) ∧ w.cell? ⟨g, 5, none⟩ = some (.slice none 0 0) ∧ w.cell? ⟨g, 6, none⟩ = some (.slice none 0 0)) ∧
  (w.frozen? ⟨g, 0, none⟩ = false ∧ w.frozen? ⟨g, 1, none⟩ = false ∧ w.frozen? ⟨g, 2, none⟩ = false ∧ w.frozen? ⟨g, 3, none⟩ = false ∧ w.frozen? ⟨g, 4, none⟩ = false ∧ w.frozen? ⟨g, 5, none⟩ = false ∧ w.frozen? ⟨g, 6, none⟩ = false) :=
 ⟨⟨h.cell rfl, h.cell rfl, h.cell rfl, h.cell rfl, h.cell rfl, h.cell rfl, h.cell rfl⟩, ⟨h.frozen _, h.frozen _, h.frozen _, h.frozen _, h.frozen _, h.frozen _, h.frozen _⟩⟩
theorem blk_zeroed {w : World} {g : Nat} (h : Blk w g zV) : Blk (((((((w.setCell ⟨g, 0, none⟩ (.int .i64 0)).setCell ⟨g, 1, none⟩ (.int .u64 0)).setCell ⟨g, 2, none⟩ (.string ⟨#[]⟩)).setCell ⟨g, 3, none⟩ (.slice none 0 0)).setCell ⟨g, 4, none⟩ (.string ⟨#[]⟩)).setCell ⟨g, 5, none⟩ (.slice none 0 0)).setCell ⟨g, 6, none⟩ (.slice none 0 0)).drew g zV :=
 Blk.drew (Blk.setC (Blk.setC (Blk.setC (Blk.setC (Blk.setC (Blk.setC (Blk.setC (ds := zV) h rfl) (ds := zV) rfl) (ds := zV) rfl) (ds := zV) rfl) (ds := zV) rfl) (ds := zV) rfl) (ds := zV) rfl)
theorem below_zeroed {B : Nat} {w0 w : World} {g : Nat} (h : Below B w0 w) (hg : B ≤ g) : Below B w0 ((((((((w.setCell ⟨g, 0, none⟩ (.int .i64 0)).setCell ⟨g, 1, none⟩ (.int .u64 0)).setCell ⟨g, 2, none⟩ (.string ⟨#[]⟩)).setCell ⟨g, 3, none⟩ (.slice none 0 0)).setCell ⟨g, 4, none⟩ (.string ⟨#[]⟩)).setCell ⟨g, 5, none⟩ (.slice none 0 0)).setCell ⟨g, 6, none⟩ (.slice none 0 0)).drew) :=
 (((((((h.setCell hg _).setCell hg _).setCell hg _).setCell hg _).setCell hg _).setCell hg _).setCell hg _).drew
theorem Ed21.whole {x : E} {h : Frag} {xc : List Value} (hx : ER h x xc) : ∃ oc nc tl, xc = .int .i64 x.kind :: (oc ++ (nc ++ tl)) ∧ VR h x.old oc ∧ VR h x.new nc := by
 cases x
 rw [ER] at hx
 obtain ⟨oc, nc, fv, sv, kv, fe, se, ke, rfl, _, ⟨h3, h4⟩, _⟩ := hx
 exact ⟨oc, nc, _, rfl, h3, h4⟩
theorem apart_any (x : V) (xc : List Value) (w : World) (hx : VR (frag w) x xc) :
  Calls Tryz.prog 75 #[.agg xc.toArray] w fun e w' => e = .returned (.bool (decide (1 ≤ x.kind ∧ x.kind ≤ 3))) ∧ Below w.heap.size w w' := by
 have HS := Yq (fun (w2 : World) (g : Nat) (hB : Blk w2 g xc) => hB.cell hx.k0)
 clear hx
 generalize x.kind = k at *
 go_enter Tryz.func75, Tryz.ntmps75
 go_wp2_with (first
  | (refine wpList_box_lay rfl _ _ rfl _ rfl ?_; (intro w0 g hg hB0 hb0; have q0 := HS.out w0 g hB0; clear hB0)))
 all_goals
  go_ret
  exact ⟨ret_bool (by first | (simp [*]; done) | (simp [*]; omega)), hb0⟩
theorem aswap_any (er : Errs) (F : List (Option Nat)) (x : E) (v : V) (xc vc : List Value) (w : World) (he : ErrsAt er w) (hx : ER (fragE w F) x xc) (hv : VR (fragE w F) v vc) :
  Calls Tryz.prog 38 #[.agg xc.toArray, .agg vc.toArray] w (RetR er F w (if cmp x.old v = 0 then .ok x.new else .bad 13)) := by
 obtain ⟨oc, nc, tl, hxc, ho, hn⟩ := Ed21.whole hx
 have HV := Yq (fun (wx : World) (hb : Below w.heap.size w wx) => same_any x.old v oc vc wx ((ho.mono (fragE_le w F)).mono (below_le hb)) ((hv.mono (fragE_le w F)).mono (below_le hb)))
 have HE := Yq (fun (wx : World) (hb : Below w.heap.size w wx) => (he.keep hb).c)
 have Hlt := Yq (World.block_lt_of_cell? w _ he.c)
 have HA := Yq (fun (w2 : World) (g : Nat) (hB : Blk w2 g xc) => And.intro (hB.range (p := [.int .i64 x.kind]) (q := oc) hxc rfl) (hB.range (p := .int .i64 x.kind :: oc) (q := nc) hxc (o := 8) (by simp [ho.len])))
 have HLo := Yq ho.len
 have HLn := Yq hn.len
 have HLv := Yq hv.len
 have HNn := Yq hn.shape.one
 have HN := Yq hn
 clear he hx hv ho hn hxc
 have Hfin : Hid (∀ w', Below w.heap.size w w' → RetR er F w (.ok x.new) (.returned (.tuple #[.agg nc.toArray, .nilIface])) w') := fun w' hb => ⟨hb, nc, rfl, HN.out.mono (belowE hb (fun _ h => .inl h))⟩
 by_cases hc : cmp x.old v = 0
 ·rw [if_pos hc]
  rw [decide_eq_true hc] at HV
  clear hc
  go_enter Tryz.func38, Tryz.ntmps38
  go_wp2_with (first
   | (refine wpList_box_lay rfl 32 _ rfl _ rfl ?_; (intro w0 g0 hg0 hB0 hb0))
   | (refine wpList_box_lay rfl 27 _ rfl _ rfl ?_; (intro w1 g1 hg1 hB1 hb1; replace hB0 := hB0.below hb1 hB0.lt; replace hb0 := hb0.trans (hb1.mono hb0.size)))
   | (refine wpList_alloc_lay rfl 27 rfl zV zeroV ?_; (intro w2 g2 hg2 hB2 hb2; replace hB0 := hB0.below hb2 hB0.lt; replace hB1 := hB1.below hb2 hB1.lt; replace hg2 := Nat.le_trans hb0.size hg2; replace hb0 := hb0.trans (hb2.mono hb0.size); clear hb1 hb2; obtain ⟨r1, r8⟩ := HA.out _ _ hB0; have r0 := hB1.whole))
   | (refine wpList_load_seg rfl 27 _ rfl _ _ rfl _ _ (by assumption) Tryz.underlying27 rfl ?_ ?_; (· first | exact iC infoV HLo | exact iC infoV HLv | exact iC infoV HLn))
   | (go_at_call 14; (with_reducible refine (HV.out _ (by assumption)).mono ?_); rintro e w3 ⟨rfl, hb3⟩; replace hB2 := hB2.below hb3 hB2.lt; replace hB0 := hB0.below hb3 hB0.lt; replace hb0 := hb0.trans (hb3.mono hb0.size); clear r0 r1 r8 hb3; obtain ⟨r1, r8⟩ := HA.out _ _ hB0)
   | (refine wpList_store_all rfl 27 _ _ rfl _ _ rfl rfl _ (by assumption) ?_ ?_ ?_ ?_; (· exact iC infoV HLn); (· exact HLn.out); (· exact HNn.out); (intro w4 hB4 hgr; replace hb0 := Below.grown hb0 hgr hb0.size (fun _ e => by cases e; exact hg2); clear r1 r8)))
  refine bodyPost_ret (v := .tuple #[.agg nc.toArray, .nilIface]) ?_ rfl (Hfin.out _ hb0)
  exact results2_blk rfl _ _ g2 nc _ rfl rfl hB4 _ Tryz.underlying27 rfl (iC infoV HLn)
 ·rw [if_neg hc]
  rw [decide_eq_false hc] at HV
  clear hc
  go_enter Tryz.func38, Tryz.ntmps38
  go_wp2_with (first
   | (refine wpList_box_lay rfl 32 _ rfl _ rfl ?_; (intro w0 g0 hg0 hB0 hb0))
   | (refine wpList_box_lay rfl 27 _ rfl _ rfl ?_; (intro w1 g1 hg1 hB1 hb1; replace hB0 := hB0.below hb1 hB0.lt; replace hb0 := hb0.trans (hb1.mono hb0.size)))
   | (refine wpList_alloc_lay rfl 27 rfl zV zeroV ?_; (intro w2 g2 hg2 hB2 hb2; replace hB0 := hB0.below hb2 hB0.lt; replace hB1 := hB1.below hb2 hB1.lt; replace hg2 := Nat.le_trans hb0.size hg2; replace hb0 := hb0.trans (hb2.mono hb0.size); clear hb1 hb2; obtain ⟨r1, r8⟩ := HA.out _ _ hB0; have r0 := hB1.whole))
   | (refine wpList_load_seg rfl 27 _ rfl _ _ rfl _ _ (by assumption) Tryz.underlying27 rfl ?_ ?_; (· first | exact iC infoV HLo | exact iC infoV HLv | exact iC infoV HLn))
   | (go_at_call 14; (with_reducible refine (HV.out _ (by assumption)).mono ?_); rintro e w3 ⟨rfl, hb3⟩; replace hB2 := hB2.below hb3 hB2.lt; replace hb0 := hb0.trans (hb3.mono hb0.size); clear r0 r1 r8 hb3))
  have hE := HE.out _ hb0
  obtain ⟨⟨z0, z1, z2, z3, z4, z5, z6⟩, f0, f1, f2, f3, f4, f5, f6⟩ := hB2.zero
  have n1 : ¬ g2 = 12 := fun e => absurd hg2 (by have := Hlt.out; omega)
  have n2 : ¬ 12 = g2 := fun e => n1 e.symm
  clear hg0 hg1
  go_region
  all_goals
   go_wp2_with fail
   refine bodyPost_ret (v := .tuple #[.agg zV.toArray, er.c]) (results2_blk rfl _ _ g2 zV _ rfl rfl ?_ _ Tryz.underlying27 rfl infoV) rfl ⟨?_, rfl⟩
   ·exact blk_zeroed hB2
   ·exact below_zeroed hb0 hg2
open Val (V E v0 right cmp eright Res ado)
def RetN (F : List (Option Nat)) (w : World) (r : Res V) (e : Ending) (w' : World) : Prop :=
 Below w.heap.size w w' ∧ match r with
 | .bad n => e = .returned (.tuple #[.agg zV.toArray, .int .i64 n])
 | .ok x => ∃ xc, e = .returned (.tuple #[.agg xc.toArray, .int .i64 0]) ∧ VR (fragE w' F) x xc
theorem rdo_0 (F : List (Option Nat)) (e : E) (v : V) (ec vc : List Value) (w : World) (hk : e.kind = 0) (he : ER (fragE w F) e ec) (hv : VR (fragE w F) v vc) :
  Calls Tryz.prog 22 #[.agg ec.toArray, .agg vc.toArray] w (RetN F w (.ok v)) := by
 have HK0 : Hid (ec[0]? = some (.int .i64 0)) := Yq (by rw [← hk]; exact he.k0)
 have HLv := Yq hv.len; have HOv := Yq hv.ones; have Hv := Yq hv
 clear he hv hk
 go_enter Tryz.func22, Tryz.ntmps22
 have HO := Own.nil w
 go_upto_region 2 with (first
  | ((with_reducible refine atOp (.box 52 _) ?_); refine wpList_box_own rfl 52 _ rfl ec rfl HO ?_; clear HO; intro w1 g1 HO)
  | ((with_reducible refine atOp (.box 40 _) ?_); refine wpList_box_own rfl 40 _ rfl vc rfl HO ?_; clear HO; intro w1 gx HO)
  | (refine wpList_build0 rfl 40 rfl _ rp_build ?_; refine wpList_alloc_own rfl 40 rfl zV zeroRV HO ?_; clear HO; intro w3 g6 HO)
  | ((with_reducible refine atOp (.alloc 40) ?_); refine wpList_alloc_own rfl 40 rfl zV zeroRV HO ?_; clear HO; intro w2 g4 HO)
  | ((with_reducible refine atOp (.store 40 _ _) ?_); refine wpList_store_own 0 rfl 40 _ _ rfl _ 0 (cP 0 (.slice none 0 0)) rfl rfl HO rfl infoRV (Nat.le_refl _) (one_cP rfl) rfl ?_; clear HO; intro w4 HO)
  | fail)
 have k0 := (HO.at 3 rfl).cell HK0.out
 have hvv := (HO.at 2 rfl).whole
 go_wp2_with (first
 | ((with_reducible refine atOp (.load 40 _) ?_); refine wpList_load_seg rfl 40 _ rfl _ _ rfl _ _ hvv Tryz.underlying40 rfl (iC infoRV HLv) ?_)
 | ((with_reducible refine atOp (.store 40 _ _) ?_); refine wpList_store_own 1 rfl 40 _ _ rfl _ 0 vc rfl rfl HO rfl (iC infoRV HLv) (by rw [HLv.out]; decide) HOv.out (patch_whole' _ _ (by rw [HLv.out]; rfl)) ?_; clear HO; intro w5 HO)
 | fail)
 refine bodyPost_ret (v := .tuple #[.agg vc.toArray, .int .i64 0]) ?_ rfl ⟨HO.below, vc, rfl, Hv.out.mono (belowE HO.below (fun _ h => .inl h))⟩
 exact results2_blk rfl _ _ g4 vc _ rfl rfl (HO.at 1 rfl) _ Tryz.underlying40 rfl (iC infoRV HLv)
theorem rdo_1 (F : List (Option Nat)) (o n : V) (f : List (Int × E)) (r : Bool) (ro rn : ByteArray) (s : List (Int × Int × V × E)) (ks : List (V × E)) (v : V) (ec vc : List Value) (w : World) (hro : right o = true) (hrv : right v = true) (he : ER (fragE w F) (.mk 1 o n f r ro rn s ks) ec) (hv : VR (fragE w F) v vc) :
  Calls Tryz.prog 22 #[.agg ec.toArray, .agg vc.toArray] w (RetN F w (ado (.mk 1 o n f r ro rn s ks) v)) := by
 have HK0 : Hid (ec[0]? = some (.int .i64 1)) := Yq he.k0
 have HLv := Yq hv.len; have HOv := Yq hv.ones
 rw [ER] at he
 obtain ⟨oc, nc, fv, sv, kv, fe, se, ke, hxc, hsz2, ⟨h3, h4⟩, _⟩ := he
 have HLo := Yq h3.len; have HLn := Yq h4.len; have HOn := Yq h4.ones; have Hn := Yq h4
 have HSm := Yq (fun (w0 : World) (hb : Below w.heap.size w w0) => rsame_any v o vc oc w0 (hv.mono ((fragE_le w F).trans (below_le hb))) (h3.mono ((fragE_le w F).trans (below_le hb))))
 have HP1 : Hid (∀ (w2 : World) (g : Nat), Blk w2 g ec → w2.rangeAt g 1 oc ∧ w2.rangeAt g 8 nc) := Yq (fun w2 g hB => by
  subst hxc
  exact ⟨hB.range (p := [.int .i64 1]) (q := oc) rfl rfl, hB.range (p := .int .i64 1 :: oc) (q := nc) rfl (by simp [HLo.out])⟩)
 have hA : ado (.mk 1 o n f r ro rn s ks) v = if decide (cmp v o = 0) = true then .ok n else .bad 13 := by
  rw [ado, if_pos rfl]
  by_cases h : v = o
  ·subst h; simp [Val.cmp_refl]
  ·rw [if_neg (fun e => h (Val.cmp_eq o v hro hrv e).symm), decide_eq_false (fun e => h (Val.cmp_eq v o hrv hro e)), if_neg (by decide)]
 rw [hA]
 generalize decide (cmp v o = 0) = c at *
 clear hA hxc hsz2 h3 h4 hv hro hrv
 go_enter Tryz.func22, Tryz.ntmps22
 have HO := Own.nil w
 go_upto_region 2 with (first
  | ((with_reducible refine atOp (.box 52 _) ?_); refine wpList_box_own rfl 52 _ rfl ec rfl HO ?_; clear HO; intro w1 g1 HO)
  | ((with_reducible refine atOp (.box 40 _) ?_); refine wpList_box_own rfl 40 _ rfl vc rfl HO ?_; clear HO; intro w1 gx HO)
  | (refine wpList_build0 rfl 40 rfl _ rp_build ?_; refine wpList_alloc_own rfl 40 rfl zV zeroRV HO ?_; clear HO; intro w3 g6 HO)
  | ((with_reducible refine atOp (.alloc 40) ?_); refine wpList_alloc_own rfl 40 rfl zV zeroRV HO ?_; clear HO; intro w2 g4 HO)
  | ((with_reducible refine atOp (.store 40 _ _) ?_); refine wpList_store_own 0 rfl 40 _ _ rfl _ 0 (cP 0 (.slice none 0 0)) rfl rfl HO rfl infoRV (Nat.le_refl _) (one_cP rfl) rfl ?_; clear HO; intro w4 HO)
  | fail)
 have k0 := (HO.at 3 rfl).cell HK0.out
 have hvv := (HO.at 2 rfl).whole
 obtain ⟨r1, r8⟩ := HP1.out _ _ (HO.at 3 rfl)
 cases c with
 | false =>
  go_wp2_with (first
 | ((with_reducible refine atOp (.load 40 _) ?_); refine wpList_load_seg rfl 40 _ rfl _ _ rfl _ _ hvv Tryz.underlying40 rfl (iC infoRV HLv) ?_)
 | ((with_reducible refine atOp (.load 40 _) ?_); refine wpList_load_seg rfl 40 _ rfl _ _ rfl _ _ r1 Tryz.underlying40 rfl (iC infoRV HLo) ?_)
 | (go_at_call 12; (with_reducible refine (HSm.out _ HO.below).mono ?_); rintro e w7 ⟨rfl, hbc⟩; replace HO := HO.call hbc; clear hbc hvv r1 r8 k0; have hnn := (HO.at 0 rfl).whole)
 | ((with_reducible refine atOp (.load 40 _) ?_); refine wpList_load_seg rfl 40 _ rfl _ _ rfl _ _ hnn Tryz.underlying40 rfl infoRV ?_)
 | ((with_reducible refine atOp (.store 40 _ _) ?_); refine wpList_store_own 1 rfl 40 _ _ rfl _ 0 (cP 0 (.slice none 0 0)) rfl rfl HO rfl infoRV (Nat.le_refl _) (one_cP rfl) rfl ?_; clear HO; intro w5 HO)
 | fail)
  refine bodyPost_ret (v := .tuple #[.agg zV.toArray, .int .i64 13]) ?_ rfl ⟨HO.below, rfl⟩
  exact results2_blk rfl _ _ g4 zV _ rfl rfl (HO.at 1 rfl) _ Tryz.underlying40 rfl infoRV
 | true =>
  go_wp2_with (first
 | ((with_reducible refine atOp (.load 40 _) ?_); refine wpList_load_seg rfl 40 _ rfl _ _ rfl _ _ hvv Tryz.underlying40 rfl (iC infoRV HLv) ?_)
 | ((with_reducible refine atOp (.load 40 _) ?_); refine wpList_load_seg rfl 40 _ rfl _ _ rfl _ _ r1 Tryz.underlying40 rfl (iC infoRV HLo) ?_)
 | (go_at_call 12; (with_reducible refine (HSm.out _ HO.below).mono ?_); rintro e w7 ⟨rfl, hbc⟩; replace HO := HO.call hbc; clear hbc hvv r1 r8 k0; obtain ⟨_, r9⟩ := HP1.out _ _ (HO.at 3 rfl))
 | ((with_reducible refine atOp (.load 40 _) ?_); refine wpList_load_seg rfl 40 _ rfl _ _ rfl _ _ r9 Tryz.underlying40 rfl (iC infoRV HLn) ?_)
 | ((with_reducible refine atOp (.store 40 _ _) ?_); refine wpList_store_own 1 rfl 40 _ _ rfl _ 0 nc rfl rfl HO rfl (iC infoRV HLn) (by rw [HLn.out]; decide) HOn.out (patch_whole' _ _ (by rw [HLn.out]; rfl)) ?_; clear HO; intro w5 HO)
 | fail)
  refine bodyPost_ret (v := .tuple #[.agg nc.toArray, .int .i64 0]) ?_ rfl ⟨HO.below, nc, rfl, Hn.out.mono (belowE HO.below (fun _ h => .inl h))⟩
  exact results2_blk rfl _ _ g4 nc _ rfl rfl (HO.at 1 rfl) _ Tryz.underlying40 rfl (iC infoRV HLn)
end Go.Proofs.YtebekgdjknenlaaGreatDoor
