/- Arguments that are values and edits, opened: what lies in memory is a tree. -/
import Derived.ChangeArms
import Derived.Test.YtlmbcoecipbblaaGreatDoorGpT
set_option maxRecDepth 100000
set_option linter.unusedVariables false
set_option linter.unusedSimpArgs false
namespace Go.Proofs.YtlmbcoecipbblaaGreatDoor
open Go.ChangeShapes Go.WideShapes Go.ChangeAt Go.RowKit
open Val (V E)
section
variable {H : Type} {enc : TypeId × Value → H} {w : World} {base : Nat} {spare : Nat → Bool} {held : Bool}
theorem flat_open {P : Program} {t e : TypeId} {s fuel : Nat} {cs : List Value} {x : DataW H × List MemPlace} (ht : P.underlying t = some (.slice e)) (hs : P.cellsOf e = s) (h0 : 0 < s) (h : DataW.trod enc P w base spare held fuel t cs = some x) :
  ∃ (v : Value) (es : List (List Value)), cs = [v] ∧ FlatC s (frag w) v es ∧ ∀ ec ∈ es, ∃ n y, n < fuel ∧ DataW.trod enc P w base spare held n e ec = some y := by
 rcases DataW.trod_slice ht h with ⟨rfl, _⟩ | ⟨a, len, cap, elems, rest, n, rfl, rfl, _, _, hlc, hcm, hel, hat, _⟩
 ·exact ⟨_, [], rfl, FlatC.nil _ _, fun e he => by simp at he⟩
 ·have hx : ∀ i, i < len → ∃ ec, w.cells? base (a.add (i * s)) s = some ec ∧ ∃ y, DataW.trod enc P w base spare held n e ec = some y := fun i hi => by
   have h1 := hat i hi
   rw [hs, List.getElem?_eq_getElem (by omega)] at h1
   cases hc : w.cells? base (a.add (i * s)) s with
   | none => rw [hc] at h1; simp at h1
   | some ec => rw [hc] at h1; exact ⟨ec, rfl, _, h1⟩
  have hes : ∀ ec ∈ (List.range len).map (fun i => (w.cells? base (a.add (i * s)) s).getD []), ec.length = s ∧ ∃ y, DataW.trod enc P w base spare held n e ec = some y := fun ec he => by
   obtain ⟨i, hi, rfl⟩ := List.mem_map.1 he
   obtain ⟨ec, h1, h2⟩ := hx i (by simpa using hi)
   rw [h1]
   exact ⟨(World.cells?_some h1).2.1, h2⟩
  have hll : ((List.range len).map (fun i => (w.cells? base (a.add (i * s)) s).getD [])).length = len := by simp
  refine ⟨_, (List.range len).map (fun i => (w.cells? base (a.add (i * s)) s).getD []), rfl, ⟨some a, cap, by simp, by simpa using hlc, hcm, fun e => (by cases e), ?_, fun ec he => (hes ec he).1⟩, fun ec he => ?_⟩
  ·by_cases hz : len = 0
   ·left; subst hz; rfl
   ·right
    obtain ⟨ec, h1, _⟩ := hx 0 (by omega)
    obtain ⟨_, hl, hc⟩ := World.cells?_some h1
    have h2 := hc 0 h0
    rw [List.getElem?_eq_getElem (by omega)] at h2
    have e0 : (a.add (0 * s)).add 0 = a := by simp [Addr.add]
    rw [e0] at h2
    have hb : ∃ cur t fr, w.heap[a.block]? = some (.cells cur t fr) ∧ a.spot = none := by
     unfold World.cell? at h2
     split at h2
     ·rename_i c t' fr hh
      refine ⟨c, t', fr, hh, ?_⟩
      cases hsp : a.spot with
      | none => rfl
      | some q => rw [hsp] at h2; simp at h2
     ·cases h2
    obtain ⟨cur, t', fr, hb, hsp⟩ := hb
    obtain ⟨b, off, sp⟩ := a
    simp only at hsp hb
    subst hsp
    refine ⟨b, off, cur, t', fr, rfl, hb, fun i hi => ?_⟩
    have hfl := flatten_len (fun ec he => (hes ec he).1)
    rw [hfl, hll] at hi
    have hq : i / s < len := by
     rw [Nat.div_lt_iff_lt_mul h0]; exact hi
    have hr : i % s < s := Nat.mod_lt _ h0
    have hi2 : i = i / s * s + i % s := by rw [Nat.mul_comm]; exact (Nat.div_add_mod i s).symm
    have h5 := flatten_at (i / s) (i % s) (fun ec he => (hes ec he).1) (by rw [hll]; exact hq) hr
    rw [← hi2] at h5
    rw [h5]
    obtain ⟨ec, h1, _⟩ := hx (i / s) hq
    have h6 := (World.cells?_some h1).2.2 (i % s) hr
    have e1 : ((⟨b, off, none⟩ : Addr).add (i / s * s)).add (i % s) = ⟨b, off + i, none⟩ := by
     rw [Addr.add_none, Addr.add_none, Nat.add_assoc, ← hi2]
    rw [e1, World.cell?, hb] at h6
    simp only [Option.isSome_none, Bool.false_eq_true, if_false] at h6
    rw [h6, List.getElem_map, List.getElem_range, h1]
    rfl
  ·obtain ⟨_, y, hy⟩ := hes ec he
   exact ⟨n, y, Nat.lt_succ_self _, hy⟩
theorem FsR.of_all {h : Frag} : ∀ {es : List (List Value)}, (∀ ec ∈ es, ∃ n v xc, ec = .int .i64 n :: xc ∧ VR h v xc) → ∃ fs, FsR h fs es
 | [], _ => ⟨[], by rw [FsR]⟩
 | ec :: r, hs => by
  obtain ⟨n, v, xc, e, hv⟩ := hs ec (by simp)
  obtain ⟨fs, hf⟩ := FsR.of_all (es := r) (fun ec he => hs ec (by simp [he]))
  exact ⟨(n, v) :: fs, by rw [FsR]; exact ⟨xc, r, by rw [e], hv, hf⟩⟩
theorem LsR.of_all {h : Frag} : ∀ {es : List (List Value)}, (∀ ec ∈ es, ∃ v, VR h v ec) → ∃ fs, LsR h fs es
 | [], _ => ⟨[], by rw [LsR]⟩
 | ec :: r, hs => by
  obtain ⟨v, hv⟩ := hs ec (by simp)
  obtain ⟨fs, hf⟩ := LsR.of_all (es := r) (fun ec he => hs ec (by simp [he]))
  exact ⟨v :: fs, by rw [LsR]; exact ⟨ec, r, rfl, hv, hf⟩⟩
theorem PsR.of_all {h : Frag} : ∀ {es : List (List Value)}, (∀ ec ∈ es, ∃ k v kc xc, ec = kc ++ xc ∧ VR h k kc ∧ VR h v xc) → ∃ fs, PsR h fs es
 | [], _ => ⟨[], by rw [PsR]⟩
 | ec :: r, hs => by
  obtain ⟨k, v, kc, xc, e, hk, hv⟩ := hs ec (by simp)
  obtain ⟨fs, hf⟩ := PsR.of_all (es := r) (fun ec he => hs ec (by simp [he]))
  exact ⟨(k, v) :: fs, by rw [PsR]; exact ⟨kc, xc, r, by rw [e], hk, hv, hf⟩⟩
theorem EFs.of_all {h : Frag} : ∀ {es : List (List Value)}, (∀ ec ∈ es, ∃ n v xc, ec = .int .i64 n :: xc ∧ ER h v xc) → ∃ fs, EFs h fs es
 | [], _ => ⟨[], by rw [EFs]⟩
 | ec :: r, hs => by
  obtain ⟨n, v, xc, e, hv⟩ := hs ec (by simp)
  obtain ⟨fs, hf⟩ := EFs.of_all (es := r) (fun ec he => hs ec (by simp [he]))
  exact ⟨(n, v) :: fs, by rw [EFs]; exact ⟨xc, r, by rw [e], hv, hf⟩⟩
theorem ESs.of_all {h : Frag} : ∀ {es : List (List Value)}, (∀ ec ∈ es, ∃ k c v x vc xc, ec = .int .i64 k :: .int .i64 c :: (vc ++ xc) ∧ VR h v vc ∧ ER h x xc) → ∃ fs, ESs h fs es
 | [], _ => ⟨[], by rw [ESs]⟩
 | ec :: r, hs => by
  obtain ⟨k, c, v, x, vc, xc, e, hv, hx⟩ := hs ec (by simp)
  obtain ⟨fs, hf⟩ := ESs.of_all (es := r) (fun ec he => hs ec (by simp [he]))
  exact ⟨(k, c, v, x) :: fs, by rw [ESs]; exact ⟨vc, xc, r, by rw [e], hv, hx, hf⟩⟩
theorem EKs.of_all {h : Frag} : ∀ {es : List (List Value)}, (∀ ec ∈ es, ∃ k x kc xc, ec = kc ++ xc ∧ VR h k kc ∧ ER h x xc) → ∃ fs, EKs h fs es
 | [], _ => ⟨[], by rw [EKs]⟩
 | ec :: r, hs => by
  obtain ⟨k, x, kc, xc, e, hk, hx⟩ := hs ec (by simp)
  obtain ⟨fs, hf⟩ := EKs.of_all (es := r) (fun ec he => hs ec (by simp [he]))
  exact ⟨(k, x) :: fs, by rw [EKs]; exact ⟨kc, xc, r, by rw [e], hk, hx, hf⟩⟩
theorem cVo : Tryz.prog.cellsOf 27 = 7 := by kernel_rfl
theorem cVF : Tryz.prog.cellsOf 93 = 8 := by kernel_rfl
theorem cVP : Tryz.prog.cellsOf 97 = 14 := by kernel_rfl
theorem cEo : Tryz.prog.cellsOf 32 = 21 := by kernel_rfl
theorem cEF : Tryz.prog.cellsOf 60 = 22 := by kernel_rfl
theorem cES : Tryz.prog.cellsOf 81 = 30 := by kernel_rfl
theorem cEK : Tryz.prog.cellsOf 64 = 28 := by kernel_rfl
theorem c1 : Tryz.prog.cellsOf 3 = 1 ∧ Tryz.prog.cellsOf 22 = 1 ∧ Tryz.prog.cellsOf 9 = 1 ∧ Tryz.prog.cellsOf 4 = 1 ∧ Tryz.prog.cellsOf 23 = 1 ∧ Tryz.prog.cellsOf 24 = 1 ∧ Tryz.prog.cellsOf 25 = 1 ∧ Tryz.prog.cellsOf 28 = 1 ∧ Tryz.prog.cellsOf 29 = 1 ∧ Tryz.prog.cellsOf 30 = 1 :=
 ⟨by kernel_rfl, by kernel_rfl, by kernel_rfl, by kernel_rfl, by kernel_rfl, by kernel_rfl, by kernel_rfl, by kernel_rfl, by kernel_rfl, by kernel_rfl⟩
theorem struct2_open {P : Program} {t : TypeId} {f0 f1 : Field} {fuel : Nat} {cs : List Value} {x : DataW H × List MemPlace} (ht : P.underlying t = some (.struct #[f0, f1])) (h : DataW.trod enc P w base spare held fuel t cs = some x) :
  cs.length = P.cellsOf t ∧ ∃ n y0 y1, n < fuel ∧ DataW.trod enc P w base spare held n f0.type ((cs.drop f0.offset).take (P.cellsOf f0.type)) = some y0 ∧ DataW.trod enc P w base spare held n f1.type ((cs.drop f1.offset).take (P.cellsOf f1.type)) = some y1 := by
 obtain ⟨xs, n, rfl, _, hl, hxs, hg⟩ := DataW.trod_struct ht h
 match xs, (show xs.length = 2 from hxs) with
 | [y0, y1], _ => exact ⟨hl, n, y0, y1, Nat.lt_succ_self _, by simpa using hg 0 f0 rfl, by simpa using hg 1 f1 rfl⟩
theorem struct4_open {P : Program} {t : TypeId} {f0 f1 f2 f3 : Field} {fuel : Nat} {cs : List Value} {x : DataW H × List MemPlace} (ht : P.underlying t = some (.struct #[f0, f1, f2, f3])) (h : DataW.trod enc P w base spare held fuel t cs = some x) :
  cs.length = P.cellsOf t ∧ ∃ n y0 y1 y2 y3, n < fuel ∧ DataW.trod enc P w base spare held n f0.type ((cs.drop f0.offset).take (P.cellsOf f0.type)) = some y0 ∧ DataW.trod enc P w base spare held n f1.type ((cs.drop f1.offset).take (P.cellsOf f1.type)) = some y1 ∧
   DataW.trod enc P w base spare held n f2.type ((cs.drop f2.offset).take (P.cellsOf f2.type)) = some y2 ∧ DataW.trod enc P w base spare held n f3.type ((cs.drop f3.offset).take (P.cellsOf f3.type)) = some y3 := by
 obtain ⟨xs, n, rfl, _, hl, hxs, hg⟩ := DataW.trod_struct ht h
 match xs, (show xs.length = 4 from hxs) with
 | [y0, y1, y2, y3], _ => exact ⟨hl, n, y0, y1, y2, y3, Nat.lt_succ_self _, by simpa using hg 0 f0 rfl, by simpa using hg 1 f1 rfl, by simpa using hg 2 f2 rfl, by simpa using hg 3 f3 rfl⟩
theorem split_at (cs : List Value) (a b : Nat) (h : cs.length = a + b) : cs = cs.take a ++ (cs.drop a).take b := by
 rw [List.take_of_length_le (l := cs.drop a) (by rw [List.length_drop]; omega), List.take_append_drop]
theorem vr_open : ∀ (fuel : Nat) (cs : List Value) (x : DataW H × List MemPlace), DataW.trod enc Tryz.prog w base spare held fuel 27 cs = some x → ∃ v : V, VR (frag w) v cs := by
 intro fuel
 induction fuel using Nat.strongRecOn with
 | ind fuel ih =>
 intro cs x h
 obtain ⟨xs, n, hfu, _, hl, hxs, hg⟩ := DataW.trod_struct Tryz.underlying27 h
 rw [cVo] at hl
 have hxs7 : xs.length = 7 := hxs
 obtain ⟨ci, cu, cs', cb, cvf, cv, cvp, _⟩ := c1
 match cs, hl with
 | [c0, c1, c2, c3, c4, c5, c6], _ =>
  match xs, hxs7 with
  | [y0, y1, y2, y3, y4, y5, y6], _ =>
   have h0 : DataW.trod enc Tryz.prog w base spare held n 3 [c0] = some y0 := by
    have h : DataW.trod enc Tryz.prog w base spare held n 3 (([c0, c1, c2, c3, c4, c5, c6].drop 0).take (Tryz.prog.cellsOf 3)) = some y0 := hg 0 _ rfl
    rw [ci] at h; exact h
   have h1 : DataW.trod enc Tryz.prog w base spare held n 22 [c1] = some y1 := by
    have h : DataW.trod enc Tryz.prog w base spare held n 22 (([c0, c1, c2, c3, c4, c5, c6].drop 1).take (Tryz.prog.cellsOf 22)) = some y1 := hg 1 _ rfl
    rw [cu] at h; exact h
   have h2 : DataW.trod enc Tryz.prog w base spare held n 9 [c2] = some y2 := by
    have h : DataW.trod enc Tryz.prog w base spare held n 9 (([c0, c1, c2, c3, c4, c5, c6].drop 2).take (Tryz.prog.cellsOf 9)) = some y2 := hg 2 _ rfl
    rw [cs'] at h; exact h
   have h3 : DataW.trod enc Tryz.prog w base spare held n 23 [c3] = some y3 := by
    have h : DataW.trod enc Tryz.prog w base spare held n 23 (([c0, c1, c2, c3, c4, c5, c6].drop 3).take (Tryz.prog.cellsOf 23)) = some y3 := hg 3 _ rfl
    rw [cvf] at h; exact h
   have h4 : DataW.trod enc Tryz.prog w base spare held n 9 [c4] = some y4 := by
    have h : DataW.trod enc Tryz.prog w base spare held n 9 (([c0, c1, c2, c3, c4, c5, c6].drop 4).take (Tryz.prog.cellsOf 9)) = some y4 := hg 4 _ rfl
    rw [cs'] at h; exact h
   have h5 : DataW.trod enc Tryz.prog w base spare held n 24 [c5] = some y5 := by
    have h : DataW.trod enc Tryz.prog w base spare held n 24 (([c0, c1, c2, c3, c4, c5, c6].drop 5).take (Tryz.prog.cellsOf 24)) = some y5 := hg 5 _ rfl
    rw [cv] at h; exact h
   have h6 : DataW.trod enc Tryz.prog w base spare held n 25 [c6] = some y6 := by
    have h : DataW.trod enc Tryz.prog w base spare held n 25 (([c0, c1, c2, c3, c4, c5, c6].drop 6).take (Tryz.prog.cellsOf 25)) = some y6 := hg 6 _ rfl
    rw [cvp] at h; exact h
   obtain ⟨k, e0, _⟩ := DataW.trod_int Tryz.underlying3 h0
   obtain ⟨m, e1, _⟩ := DataW.trod_int Tryz.underlying22 h1
   obtain ⟨t, e2, _, w2⟩ := DataW.trod_string Tryz.underlying9 h2
   obtain ⟨r, e4, _, w4⟩ := DataW.trod_string Tryz.underlying9 h4
   obtain ⟨fv, fe, e3, f3, a3⟩ := flat_open Tryz.underlying23 cVF (by decide) h3
   obtain ⟨lv, le, e5, f5, a5⟩ := flat_open Tryz.underlying24 cVo (by decide) h5
   obtain ⟨pv, pe, e6, f6, a6⟩ := flat_open Tryz.underlying25 cVP (by decide) h6
   simp only [List.cons.injEq, and_true] at e0 e1 e2 e3 e4 e5 e6
   subst e0 e1 e2 e3 e4 e5 e6
   obtain ⟨fs, hfs⟩ := FsR.of_all (h := frag w) (es := fe) (fun ec he => by
    obtain ⟨q, y, hq, hy⟩ := a3 ec he
    obtain ⟨hl, q', z0, z1, hq', g0, g1⟩ := struct2_open Tryz.underlying93 hy
    simp only [ci, cVo, cVF, List.drop_zero] at hl g0 g1
    obtain ⟨n, e0, _⟩ := DataW.trod_int Tryz.underlying3 g0
    obtain ⟨v, hv⟩ := ih q' (by omega) _ _ g1
    refine ⟨n, v, _, ?_, hv⟩
    rw [show (Value.int .i64 n :: (ec.drop 1).take 7) = ([.int .i64 n] ++ (ec.drop 1).take 7) from rfl, ← e0]
    exact split_at ec 1 7 hl)
   obtain ⟨ls, hls⟩ := LsR.of_all (h := frag w) (es := le) (fun ec he => by
    obtain ⟨q, y, hq, hy⟩ := a5 ec he
    exact ih q (by omega) _ _ hy)
   obtain ⟨ps, hps⟩ := PsR.of_all (h := frag w) (es := pe) (fun ec he => by
    obtain ⟨q, y, hq, hy⟩ := a6 ec he
    obtain ⟨hl, q', z0, z1, hq', g0, g1⟩ := struct2_open Tryz.underlying97 hy
    simp only [cVo, cVP, List.drop_zero] at hl g0 g1
    obtain ⟨k, hk⟩ := ih q' (by omega) _ _ g0
    obtain ⟨v, hv⟩ := ih q' (by omega) _ _ g1
    exact ⟨k, v, _, _, split_at ec 7 7 hl, hk, hv⟩)
   exact ⟨.mk k m t fs r ls ps, by rw [VR]; exact ⟨_, _, _, fe, le, pe, rfl, ⟨w2, w4⟩, ⟨f3, f5, f6⟩, hfs, hls, hps⟩⟩
theorem er_open : ∀ (fuel : Nat) (cs : List Value) (x : DataW H × List MemPlace), DataW.trod enc Tryz.prog w base spare held fuel 32 cs = some x → ∃ v : E, ER (frag w) v cs := by
 intro fuel
 induction fuel using Nat.strongRecOn with
 | ind fuel ih =>
 intro cs x h
 obtain ⟨xs, n, hfu, _, hl, hxs, hg⟩ := DataW.trod_struct Tryz.underlying32 h
 rw [cEo] at hl
 have hxs9 : xs.length = 9 := hxs
 obtain ⟨ci, cu, cs', cb, cvf, cv, cvp, cef, ces, cek⟩ := c1
 match xs, hxs9 with
 | [y0, y1, y2, y3, y4, y5, y6, y7, y8], _ =>
  have h0 : DataW.trod enc Tryz.prog w base spare held n 3 ((cs.drop 0).take 1) = some y0 := by
   have h : DataW.trod enc Tryz.prog w base spare held n 3 ((cs.drop 0).take (Tryz.prog.cellsOf 3)) = some y0 := hg 0 _ rfl
   rw [ci] at h; exact h
  have h1 : DataW.trod enc Tryz.prog w base spare held n 27 ((cs.drop 1).take 7) = some y1 := by
   have h : DataW.trod enc Tryz.prog w base spare held n 27 ((cs.drop 1).take (Tryz.prog.cellsOf 27)) = some y1 := hg 1 _ rfl
   rw [cVo] at h; exact h
  have h2 : DataW.trod enc Tryz.prog w base spare held n 27 ((cs.drop 8).take 7) = some y2 := by
   have h : DataW.trod enc Tryz.prog w base spare held n 27 ((cs.drop 8).take (Tryz.prog.cellsOf 27)) = some y2 := hg 2 _ rfl
   rw [cVo] at h; exact h
  have h3 : DataW.trod enc Tryz.prog w base spare held n 28 ((cs.drop 15).take 1) = some y3 := by
   have h : DataW.trod enc Tryz.prog w base spare held n 28 ((cs.drop 15).take (Tryz.prog.cellsOf 28)) = some y3 := hg 3 _ rfl
   rw [cef] at h; exact h
  have h4 : DataW.trod enc Tryz.prog w base spare held n 4 ((cs.drop 16).take 1) = some y4 := by
   have h : DataW.trod enc Tryz.prog w base spare held n 4 ((cs.drop 16).take (Tryz.prog.cellsOf 4)) = some y4 := hg 4 _ rfl
   rw [cb] at h; exact h
  have h5 : DataW.trod enc Tryz.prog w base spare held n 9 ((cs.drop 17).take 1) = some y5 := by
   have h : DataW.trod enc Tryz.prog w base spare held n 9 ((cs.drop 17).take (Tryz.prog.cellsOf 9)) = some y5 := hg 5 _ rfl
   rw [cs'] at h; exact h
  have h6 : DataW.trod enc Tryz.prog w base spare held n 9 ((cs.drop 18).take 1) = some y6 := by
   have h : DataW.trod enc Tryz.prog w base spare held n 9 ((cs.drop 18).take (Tryz.prog.cellsOf 9)) = some y6 := hg 6 _ rfl
   rw [cs'] at h; exact h
  have h7 : DataW.trod enc Tryz.prog w base spare held n 29 ((cs.drop 19).take 1) = some y7 := by
   have h : DataW.trod enc Tryz.prog w base spare held n 29 ((cs.drop 19).take (Tryz.prog.cellsOf 29)) = some y7 := hg 7 _ rfl
   rw [ces] at h; exact h
  have h8 : DataW.trod enc Tryz.prog w base spare held n 30 ((cs.drop 20).take 1) = some y8 := by
   have h : DataW.trod enc Tryz.prog w base spare held n 30 ((cs.drop 20).take (Tryz.prog.cellsOf 30)) = some y8 := hg 8 _ rfl
   rw [cek] at h; exact h
  obtain ⟨k, e0, _⟩ := DataW.trod_int Tryz.underlying3 h0
  obtain ⟨o, ho⟩ := vr_open _ _ _ h1
  obtain ⟨nw, hn⟩ := vr_open _ _ _ h2
  obtain ⟨fv, fe, e3, f3, a3⟩ := flat_open Tryz.underlying28 cEF (by decide) h3
  obtain ⟨r, e4, _⟩ := DataW.trod_bool Tryz.underlying4 h4
  obtain ⟨ro, e5, _, w5⟩ := DataW.trod_string Tryz.underlying9 h5
  obtain ⟨rn, e6, _, w6⟩ := DataW.trod_string Tryz.underlying9 h6
  obtain ⟨sv, se, e7, f7, a7⟩ := flat_open Tryz.underlying29 cES (by decide) h7
  obtain ⟨kv, ke, e8, f8, a8⟩ := flat_open Tryz.underlying30 cEK (by decide) h8
  obtain ⟨fs, hfs⟩ := EFs.of_all (h := frag w) (es := fe) (fun ec he => by
   obtain ⟨q, y, hq, hy⟩ := a3 ec he
   obtain ⟨hl, q', z0, z1, hq', g0, g1⟩ := struct2_open Tryz.underlying60 hy
   simp only [ci, cEo, cEF, List.drop_zero] at hl g0 g1
   obtain ⟨n, e0, _⟩ := DataW.trod_int Tryz.underlying3 g0
   obtain ⟨v, hv⟩ := ih q' (by omega) _ _ g1
   refine ⟨n, v, _, ?_, hv⟩
   rw [show (Value.int .i64 n :: (ec.drop 1).take 21) = ([.int .i64 n] ++ (ec.drop 1).take 21) from rfl, ← e0]
   exact split_at ec 1 21 hl)
  obtain ⟨ss, hss⟩ := ESs.of_all (h := frag w) (es := se) (fun ec he => by
   obtain ⟨q, y, hq, hy⟩ := a7 ec he
   obtain ⟨hl, q', z0, z1, z2, z3, hq', g0, g1, g2, g3⟩ := struct4_open Tryz.underlying81 hy
   simp only [ci, cEo, cVo, cES, List.drop_zero] at hl g0 g1 g2 g3
   obtain ⟨n, e0, _⟩ := DataW.trod_int Tryz.underlying3 g0
   obtain ⟨c, e1, _⟩ := DataW.trod_int Tryz.underlying3 g1
   obtain ⟨v, hv⟩ := vr_open _ _ _ g2
   obtain ⟨x, hx⟩ := ih q' (by omega) _ _ g3
   refine ⟨n, c, v, x, _, _, ?_, hv, hx⟩
   rw [show (Value.int .i64 n :: .int .i64 c :: ((ec.drop 2).take 7 ++ (ec.drop 9).take 21)) = ([.int .i64 n] ++ ([.int .i64 c] ++ ((ec.drop 2).take 7 ++ (ec.drop 9).take 21))) from rfl, ← e0, ← e1]
   have s1 := split_at (ec.drop 2) 7 21 (by rw [List.length_drop]; omega)
   rw [List.drop_drop] at s1
   have s2 := split_at (ec.drop 1) 1 28 (by rw [List.length_drop]; omega)
   rw [List.drop_drop, List.take_of_length_le (l := ec.drop (1 + 1)) (by rw [List.length_drop]; omega)] at s2
   have s3 := split_at ec 1 29 (by omega)
   rw [List.take_of_length_le (l := ec.drop 1) (by rw [List.length_drop]; omega)] at s3
   rw [← s1, ← s2, ← s3])
  obtain ⟨kk, hkk⟩ := EKs.of_all (h := frag w) (es := ke) (fun ec he => by
   obtain ⟨q, y, hq, hy⟩ := a8 ec he
   obtain ⟨hl, q', z0, z1, hq', g0, g1⟩ := struct2_open Tryz.underlying64 hy
   simp only [cEo, cVo, cEK, List.drop_zero] at hl g0 g1
   obtain ⟨k, hk⟩ := vr_open _ _ _ g0
   obtain ⟨v, hv⟩ := ih q' (by omega) _ _ g1
   exact ⟨k, v, _, _, split_at ec 7 21 hl, hk, hv⟩)
  refine ⟨.mk k o nw fs r ro rn ss kk, ?_⟩
  rw [ER]
  refine ⟨_, _, _, _, _, fe, se, ke, ?_, ⟨w5, w6⟩, ⟨ho, hn⟩, ⟨f3, f7, f8⟩, hfs, hss, hkk⟩
  have p : ∀ (a b : Nat), a + b = 21 → cs = cs.take a ++ cs.drop a := fun a b _ => (List.take_append_drop a cs).symm
  have q : ∀ (a b : Nat), cs.drop a = (cs.drop a).take b ++ cs.drop (a + b) := fun a b => by
   rw [← List.drop_drop, List.take_append_drop]
  have e : cs = (cs.drop 0).take 1 ++ ((cs.drop 1).take 7 ++ ((cs.drop 8).take 7 ++ ((cs.drop 15).take 1 ++ ((cs.drop 16).take 1 ++ ((cs.drop 17).take 1 ++ ((cs.drop 18).take 1 ++ ((cs.drop 19).take 1 ++ ((cs.drop 20).take 1 ++ cs.drop 21)))))))) := by
   rw [← q 20 1, ← q 19 1, ← q 18 1, ← q 17 1, ← q 16 1, ← q 15 1, ← q 8 7, ← q 1 7, ← q 0 1]; rfl
  have hd : cs.drop 21 = [] := List.drop_of_length_le (by omega)
  rw [e0, e3, e4, e5, e6, e7, e8, hd] at e
  exact e
theorem open_V {r : Reach} {b0 : Nat} {v : Value} {d : DataW H} {p : List MemPlace} (hv : Value.okWide Tryz.prog w r b0 27 v) (h : DataW.Trod enc Tryz.prog w base spare held 27 v d p) : ∃ x xc, v = .agg xc.toArray ∧ VR (frag w) x xc := by
 obtain ⟨cs, rfl, hsz⟩ := okWide_struct Tryz.underlying27 hv
 obtain ⟨fuel, hf⟩ := h
 obtain ⟨x, hx⟩ := vr_open _ _ _ hf
 exact ⟨x, cs.toList, rfl, hx⟩
theorem open_E {r : Reach} {b0 : Nat} {v : Value} {d : DataW H} {p : List MemPlace} (hv : Value.okWide Tryz.prog w r b0 32 v) (h : DataW.Trod enc Tryz.prog w base spare held 32 v d p) : ∃ x xc, v = .agg xc.toArray ∧ ER (frag w) x xc := by
 obtain ⟨cs, rfl, hsz⟩ := okWide_struct Tryz.underlying32 hv
 obtain ⟨fuel, hf⟩ := h
 obtain ⟨x, hx⟩ := er_open _ _ _ hf
 exact ⟨x, cs.toList, rfl, hx⟩
end
end Go.Proofs.YtlmbcoecipbblaaGreatDoor
namespace Go.Proofs.YtlmbcoecipbblaaGreatDoor
open Go.RowKit
open Val (V E)
theorem cell_obj {w : World} {g : Nat} {v : Value} (h : w.cell? ⟨g, 0, none⟩ = some v) : ∃ cur t fr, w.heap[g]? = some (.cells cur t fr) ∧ cur[0]? = some v := by
 unfold World.cell? at h
 split at h
 ·rename_i c t fr hh
  exact ⟨c, t, fr, hh, by simpa using h⟩
 ·cases h
theorem composeRefuses_at (A : Nat → Addr) (w : World) (h : NE A w) (d e : E) (dc ec : List Value) (hd : ER (frag w) d dc) (he : ER (frag w) e ec) :
  Calls Tryz.prog 3 #[.agg dc.toArray, .agg ec.toArray] w fun e w' => e = .returned (.bool true) ∧ Below w.heap.size w w' := by
 let N : Nm := ⟨fun _ => none, fun _ _ => none⟩
 let F : Nat → Prop := fun _ => False
 have hrd : FLe (frag w) (rd F N (lk []) w) := fun k o hk => fragX_of (fun hh => by
  rcases hh with hh | ⟨b, ob, hb, _⟩
  ·exact hh
  ·cases hb) hk
 have hM : Mem (gN A) F (fun _ => False) (fun _ => False) w N (lk []) w := ⟨Ext.refl _ _, fun g hg => hg.elim, fun b ob hb => (by cases hb), fun b b' ob ob' g hb => (by cases hb), fun b ob g hb => (by cases hb), fun b _ => ⟨rfl, fun r => ⟨rfl, rfl⟩⟩, fun g cs hg => by
  rcases List.mem_append.1 hg with hg | hg
  ·obtain ⟨i, hi, e⟩ := List.mem_map.1 hg
   cases e
   obtain ⟨cur, t, fr, h1, h2⟩ := cell_obj (h.cell i (List.mem_range.1 hi))
   refine ⟨cur, t, fr, [errV (A i)], hrd _ _ h1, fun j u hu => ?_, ?_, fun e => (by cases e)⟩
   ·cases j with
    | zero => cases hu; exact h2
    | succ j => cases hu
   ·exact DRs_cons.2 ⟨_, [], rfl, DR_lit.2 ⟨rfl, rfl⟩, by rw [DRs]⟩
  ·obtain ⟨i, hi, e⟩ := List.mem_map.1 hg
   cases e
   obtain ⟨c, t, h1⟩ := h.blk i (List.mem_range.1 hi)
   exact ⟨c, t, (0, 0), [], hrd _ _ h1, fun j u hu => (by cases hu), by rw [DRs], fun _ => rfl⟩⟩
 have hA : PVRs N (rd F N (lk []) w) [.agg (cellsP 21 (encE d)), .agg (cellsP 21 (encE e))] [.agg dc.toArray, .agg ec.toArray] := by
  rw [PVRs]; refine ⟨_, _, rfl, (cellsP_ok (encE_len d)).2 ⟨dc, rfl, DRs.mono hrd _ _ ((ER_iff d dc).2 hd)⟩, ?_⟩
  rw [PVRs]; refine ⟨_, _, rfl, (cellsP_ok (encE_len e)).2 ⟨ec, rfl, DRs.mono hrd _ _ ((ER_iff e ec).2 he)⟩, ?_⟩
  rw [PVRs]
 refine ((refuses_run h.ne d e _ _ rfl rfl []).2 F (fun _ => False) (fun _ => False) N w _ (fun b hb => (by cases hb)) hM hA).mono ?_
 rintro x w' ⟨v, N', rfl, _, hm, hv⟩
 rw [PVR, DR] at hv
 exact ⟨by rw [hv.1], hm.ext.below⟩
section
variable {H : Type} {enc : TypeId × Value → H} {base : Nat} {spare : Nat → Bool} {held : Bool}
theorem composeRefuses_walk {r : Reach} {b0 b1 : Nat} {v0 v1 : Value} {d0 d1 : DataW H} {p0 p1 : List MemPlace} (W : World) (hL : ∃ A, NE A W)
  (o0 : Value.okWide Tryz.prog W r b0 32 v0) (h0 : DataW.Trod enc Tryz.prog W base spare held 32 v0 d0 p0)
  (o1 : Value.okWide Tryz.prog W r b1 32 v1) (h1 : DataW.Trod enc Tryz.prog W base spare held 32 v1 d1 p1) :
  Calls Tryz.prog 3 #[v0, v1] W fun e w' => e = .returned (.bool true) ∧ Below W.heap.size W w' := by
 obtain ⟨A, he⟩ := hL
 obtain ⟨x, xc, rfl, hx⟩ := open_E o0 h0
 obtain ⟨y, yc, rfl, hy⟩ := open_E o1 h1
 exact composeRefuses_at A W he x y xc yc hx hy
end
end Go.Proofs.YtlmbcoecipbblaaGreatDoor
