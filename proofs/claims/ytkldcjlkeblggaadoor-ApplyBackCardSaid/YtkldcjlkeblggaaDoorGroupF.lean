/- edit's gatherer: what holds of it; flush, walked. -/
import Derived.Test.YtkldcjlkeblggaaDoorGroupE
import Derived.Test.YtkldcjlkeblggaaDoorGroupD
import Derived.Test.YtkldcjlkeblggaaDoorGroupC

namespace Go.Proofs.YtkldcjlkeblggaaDoor
open Go.RowKit
open Val (V E)
set_option linter.unusedVariables false
set_option linter.unusedSimpArgs false

theorem T_ES : SliceT Tryd.prog 29 55 (.agg zES.toArray) 30 496 := ⟨Tryd.underlying29, by kernel_rfl, rfl, by decide, by decide⟩

/-- two rows of steps of the call's own, apart; the steps' parts are read in h -/
structure Rows2 (h : Frag) (w : World) (gg : Nat) (ov pv : Value) (out puts : List Val.St) (oes pes : List (List Value)) : Prop where
  oo : w.ownsRow (gg + 1) 55 30 ov oes.length oes.flatten
  po : w.ownsRow (gg + 1) 55 30 pv pes.length pes.flatten
  ne : ∀ k, ov.ownBlock = some k → pv.ownBlock ≠ some k
  ro : ESs h out oes
  rp : ESs h puts pes
theorem Rows2.swap {h : Frag} {w : World} {gg : Nat} {ov pv : Value} {out puts : List Val.St} {oes pes : List (List Value)} (H : Rows2 h w gg ov pv out puts oes pes) : Rows2 h w gg pv ov puts out pes oes :=
  ⟨H.po, H.oo, fun k h1 h2 => H.ne k h2 h1, H.rp, H.ro⟩
/-- what holds of the gatherer that lies in block gg -/
structure GatAt (h : Frag) (w : World) (gg : Nat) (ov pv : Value) (out puts : List Val.St) (oes pes : List (List Value)) : Prop extends Rows2 h w gg ov pv out puts oes pes where
  blk : Blk w gg [ov, pv]
def GatW (h : Frag) (w : World) (gg : Nat) (out puts : List Val.St) : Prop := ∃ ov pv oes pes, GatAt h w gg ov pv out puts oes pes
/-- behind a flush: blocks that were apart are as they were, and apart -/
def FlushPost (h : Frag) (w : World) (gg : Nat) (ov : Value) (out : List Val.St) (e : Ending) (w' : World) : Prop := e = .returned (.tuple #[]) ∧ Below gg w w' ∧ ∃ ov' oes', GatAt h w' gg ov' (.slice none 0 0) out [] oes' [] ∧
  ∀ k, k < w.heap.size → k ≠ gg → ov.ownBlock ≠ some k → w'.heap[k]? = w.heap[k]? ∧ ov'.ownBlock ≠ some k
def GatPost (h : Frag) (w : World) (gg : Nat) (out puts : List Val.St) (e : Ending) (w' : World) : Prop := e = .returned (.tuple #[]) ∧ Below gg w w' ∧ GatW h w' gg out puts

theorem own_kept {w w' : World} {B : Nat} {e : TypeId} {s n : Nat} {v : Value} {xs : List Value} (h : w.ownsRow B e s v n xs) (hb : Below w.heap.size w w') : w'.ownsRow B e s v n xs :=
  h.kept (grown_of_below hb none) (by
    rcases h.2 with ⟨rfl, _⟩ | ⟨g, cap, cur, rfl, _⟩
    · exact .inl rfl
    · exact .inr (by simp [Value.ownBlock]))
theorem GatAt.keep {h : Frag} {w w' : World} {gg : Nat} {ov pv : Value} {out puts : List Val.St} {oes pes : List (List Value)} (hG : GatAt h w gg ov pv out puts oes pes) (hb : Below w.heap.size w w') : GatAt h w' gg ov pv out puts oes pes :=
  ⟨⟨own_kept hG.oo hb, own_kept hG.po hb, hG.ne, hG.ro, hG.rp⟩, hG.blk.below hb hG.blk.lt⟩
theorem own_slice {w : World} {B : Nat} {e : TypeId} {s n : Nat} {v : Value} {xs : List Value} (h : w.ownsRow B e s v n xs) : ∃ a cap, v = .slice a n cap ∧ HRow (frag w) a xs ∧ n ≤ cap ∧ cap ≤ maxLen ∧ (a = none → cap = 0) := by
  obtain ⟨a, cap, h1, h2, h3⟩ := HRow.of_owns (E := []) h (.inr (by simp))
  exact ⟨a, cap, h1, h2.mono (fragE_le _ _), h3⟩
theorem own_ne_base {w : World} {g : Nat} {e : TypeId} {s n : Nat} {v : Value} {xs : List Value} (h : w.ownsRow (g + 1) e s v n xs) : some g ≠ v.ownBlock := fun e => by
  have := (h.lt g e.symm).1; omega
theorem ESs.ones {h : Frag} : ∀ {l : List Val.St} {es : List (List Value)}, ESs h l es → ∀ u ∈ es.flatten, u.oneCell' = true
  | [], es, hl => by rw [ESs] at hl; subst hl; simp
  | s :: r, es, hl => by
    obtain ⟨cs, er, rfl, h1, h2⟩ := ESs.cons_iff.1 hl
    intro u hu
    rw [List.flatten_cons] at hu
    rcases List.mem_append.1 hu with hu | hu
    · exact h1.one u hu
    · exact h2.ones u hu
theorem ESs.flat_len {h : Frag} : ∀ {l : List Val.St} {es : List (List Value)}, ESs h l es → es.flatten.length = es.length * 30
  | [], es, hl => by rw [ESs] at hl; subst hl; simp
  | s :: r, es, hl => by
    obtain ⟨cs, er, rfl, h1, h2⟩ := ESs.cons_iff.1 hl
    rw [List.flatten_cons, List.length_append, h2.flat_len, h1.len, List.length_cons]; omega

/-- a step more in one of the rows: behind the append and the two stores, in either order -/
theorem Rows2.push {h : Frag} {w w2 wA Fw : World} {gg g2 c3 : Nat} {ov pv : Value} {out puts : List Val.St} {oes pes : List (List Value)} {s : Val.St} {sc : List Value} (H : Rows2 h w gg ov pv out puts oes pes) (hs : StR h s sc) (hgg : gg < w.heap.size)
    (hg2 : w.grownBy w2 ov.ownBlock) (hat : ov.ownBlock = some g2 ∨ w.heap.size ≤ g2) (hB : gg + 1 ≤ g2) {X1 X2 : Option Nat} (hX : (X1 = some g2 ∧ X2 = some gg) ∨ (X1 = some gg ∧ X2 = some g2)) (h1 : w2.grownBy wA X1) (h2 : wA.grownBy Fw X2)
    (ho : Fw.ownsRow (gg + 1) 55 30 (.slice (some ⟨g2, 0, none⟩) (oes.length + 1) c3) (oes.length + 1) (oes.flatten ++ sc)) :
    Below gg w Fw ∧ Rows2 h Fw gg (.slice (some ⟨g2, 0, none⟩) (oes.length + 1) c3) pv (out ++ [s]) puts (oes ++ [sc]) pes := by
  have hpne : ∀ k, pv.ownBlock = some k → gg + 1 ≤ k ∧ k < w.heap.size ∧ k ≠ g2 := fun k hk => by
    obtain ⟨h3, h4⟩ := H.po.lt k hk
    refine ⟨h3, h4, fun e => ?_⟩
    subst e
    rcases hat with h5 | h5
    · exact H.ne k h5 hk
    · omega
  have hb2 : Below gg w w2 := Below.grown (Below.refl _ _) hg2 (Nat.le_of_lt hgg) (fun k e => by have := (H.oo.lt k e).1; omega)
  have hz : gg ≤ w2.heap.size := Nat.le_trans (Nat.le_of_lt hgg) hg2.size
  have hx : ∀ X : Option Nat, (X = some g2 ∨ X = some gg) → (∀ k, X = some k → gg ≤ k) ∧ (pv.ownBlock = none ∨ pv.ownBlock ≠ X) := fun X hX => by
    constructor
    · intro k hk
      rcases hX with h | h
      · rw [h] at hk; cases hk; omega
      · rw [h] at hk; cases hk; exact Nat.le_refl _
    · right; intro e
      rcases hX with h | h
      · exact (hpne g2 (e.trans h)).2.2 rfl
      · have := (hpne gg (e.trans h)).1; omega
  have hX1 : X1 = some g2 ∨ X1 = some gg := by rcases hX with h | h <;> simp [h.1]
  have hX2 : X2 = some g2 ∨ X2 = some gg := by rcases hX with h | h <;> simp [h.2]
  refine ⟨Below.grown (Below.grown hb2 h1 hz (hx X1 hX1).1) h2 (Nat.le_trans hz h1.size) (hx X2 hX2).1, ?_, ?_, fun k hk => ?_, H.ro.append (.single hs), H.rp⟩
  · rw [List.flatten_append, List.length_append, List.length_singleton]; simpa using ho
  · exact ((H.po.kept hg2 (by
      cases hp : pv.ownBlock with
      | none => exact .inl rfl
      | some k => right; intro e; exact H.ne k e.symm hp)).kept h1 (hx X1 hX1).2).kept h2 (hx X2 hX2).2
  · have hk : g2 = k := by simpa [Value.ownBlock] using hk
    subst hk
    exact fun e => (hpne g2 e).2.2 rfl

set_option maxRecDepth 100000 in
set_option maxHeartbeats 4000000 in
theorem flush_any (h : Frag) (w : World) (gg : Nat) (ov pv : Value) (out puts : List Val.St) (oes pes : List (List Value)) (hG : GatAt h w gg ov pv out puts oes pes) (hl : out.length + puts.length ≤ 1000000) :
    Calls Tryd.prog 74 #[.pointer (some ⟨gg, 0, none⟩)] w (FlushPost h w gg ov (out ++ puts)) := by
  obtain ⟨pa, pc, hpv, hrow, hnc, hcm, hnil⟩ := own_slice hG.po
  subst hpv
  have HG := Lib.hid hG
  have hol := hG.ro.len
  have hpl := hG.rp.len
  have hc0 := hG.blk.cell (o := 0) rfl
  have hc1 := hG.blk.cell (o := 1) rfl
  have Hrow := Lib.hid hrow
  have Hb : Hid ((oes.length + pes.length) * 496 ≤ 140737488355328) := by show _ ≤ _; omega
  have Hgg := Lib.hid hG.blk.lt
  have hP : w.drew.cell? ⟨gg, 0, none⟩ = some ov ∧ w.drew.cell? ⟨gg, 1, none⟩ = some (.slice pa pes.length pc) := ⟨hc0, hc1⟩
  clear hG hrow hol hpl hl hc0 hc1
  go_enter Tryd.func74, Tryd.ntmps74
  go_wp2_with fail
  refine wp_region_G 12 (fun _ => True) (fun w' => w'.cell? ⟨gg, 0, none⟩ = some ov ∧ w'.cell? ⟨gg, 1, none⟩ = some (.slice pa pes.length pc)) (by kernel_rfl) trivial hP (fun _ => ?_)
  refine wpAnyG_take (i := 0) (v := .pointer (some ⟨gg, 0, none⟩)) rfl (by kernel_rfl) (fun _ _ _ h => h) (.inl ⟨by rfl, fun w hw => by go_simp⟩) (InvG.mk trivial hP) ?_
  change wpAnyG _ _ _ _ _ _ _ _ #[_, _, _, _, _, _, _, _, _, _, _, _, _] ⟨#[_, _, _, _, _, _, _, _, _, _, _, _, _, _, _, _, _], _⟩ _
  refine wpAnyG_take (i := 1) (v := .pointer (some ⟨gg, 0, none⟩)) rfl (by kernel_rfl) (fun _ _ _ h => h) (.inl ⟨by rfl, fun w hw => by go_simp⟩) (InvG.mk trivial hP) ?_
  change wpAnyG _ _ _ _ _ _ _ _ #[_, _, _, _, _, _, _, _, _, _, _, _, _] ⟨#[_, _, _, _, _, _, _, _, _, _, _, _, _, _, _, _, _], _⟩ _
  refine wpAnyG_take (i := 2) (v := .pointer (some ⟨gg, 0, none⟩)) rfl (by kernel_rfl) (fun _ _ _ h => h) (.inl ⟨by rfl, fun w hw => by go_simp⟩) (InvG.mk trivial hP) ?_
  change wpAnyG _ _ _ _ _ _ _ _ #[_, _, _, _, _, _, _, _, _, _, _, _, _] ⟨#[_, _, _, _, _, _, _, _, _, _, _, _, _, _, _, _, _], _⟩ _
  refine wpAnyG_take (i := 3) (v := .pointer (some ⟨gg, 0, none⟩)) rfl (by kernel_rfl) (fun _ _ _ h => h) (.inl ⟨by rfl, fun w hw => by go_simp⟩) (InvG.mk trivial hP) ?_
  change wpAnyG _ _ _ _ _ _ _ _ #[_, _, _, _, _, _, _, _, _, _, _, _, _] ⟨#[_, _, _, _, _, _, _, _, _, _, _, _, _, _, _, _, _], _⟩ _
  refine wpAnyG_take (i := 4) (v := ov) rfl (by kernel_rfl) (fun _ _ _ h => h) (.inl ⟨by rfl, fun w hw => by have hc := hw.2.1; clear hw; go_simp⟩) (InvG.mk trivial hP) ?_
  change wpAnyG _ _ _ _ _ _ _ _ #[_, _, _, _, _, _, _, _, _, _, _, _, _] ⟨#[_, _, _, _, _, _, _, _, _, _, _, _, _, _, _, _, _], _⟩ _
  refine wpAnyG_take (i := 5) (v := .pointer (some ⟨gg, 0, none⟩)) rfl (by kernel_rfl) (fun _ _ _ h => h) (.inl ⟨by rfl, fun w hw => by go_simp⟩) (InvG.mk trivial hP) ?_
  change wpAnyG _ _ _ _ _ _ _ _ #[_, _, _, _, _, _, _, _, _, _, _, _, _] ⟨#[_, _, _, _, _, _, _, _, _, _, _, _, _, _, _, _, _], _⟩ _
  refine wpAnyG_take (i := 6) (v := .pointer (some ⟨gg, 0, none⟩)) rfl (by kernel_rfl) (fun _ _ _ h => h) (.inl ⟨by rfl, fun w hw => by go_simp⟩) (InvG.mk trivial hP) ?_
  change wpAnyG _ _ _ _ _ _ _ _ #[_, _, _, _, _, _, _, _, _, _, _, _, _] ⟨#[_, _, _, _, _, _, _, _, _, _, _, _, _, _, _, _, _], _⟩ _
  refine wpAnyG_take (i := 7) (v := .pointer (some ⟨gg, 1, none⟩)) rfl (by kernel_rfl) (fun _ _ _ h => h) (.inl ⟨by rfl, fun w hw => by go_simp⟩) (InvG.mk trivial hP) ?_
  change wpAnyG _ _ _ _ _ _ _ _ #[_, _, _, _, _, _, _, _, _, _, _, _, _] ⟨#[_, _, _, _, _, _, _, _, _, _, _, _, _, _, _, _, _], _⟩ _
  refine wpAnyG_take (i := 8) (v := .slice pa pes.length pc) rfl (by kernel_rfl) (fun _ _ _ h => h) (.inl ⟨by rfl, fun w hw => by have hc := hw.2.2; clear hw; go_simp⟩) (InvG.mk trivial hP) ?_
  change wpAnyG _ _ _ _ _ _ _ _ #[_, _, _, _, _, _, _, _, _, _, _, _, _] ⟨#[_, _, _, _, _, _, _, _, _, _, _, _, _, _, _, _, _], _⟩ _
  refine wpAnyG_ready (rs := [9]) (by kernel_rfl) (by simp) ?_
  refine AllReadyG.plain rfl rfl (fun K hK => ?_) AllReadyG.nil
  have HD := Lib.hid (HG.out.keep ((Below.refl _ _).drew))
  refine wp_append_opt T_ES _ _ rfl (by go_simp) HD.out.oo (by go_simp) hnil hnc (Hrow.out.mono (fun _ _ h => h)) HG.out.rp.flat_len HG.out.rp.ones Hb.out (Nat.succ_le_of_lt Hgg.out) ?_
  intro v' w2 ho2 hg2 hat
  have hB2 : Blk w2 gg [ov, .slice pa pes.length pc] := HD.out.blk.grown hg2 (own_ne_base HD.out.oo)
  have hP2 : w2.cell? ⟨gg, 0, none⟩ = some ov ∧ w2.cell? ⟨gg, 1, none⟩ = some (.slice pa pes.length pc) := ⟨hB2.cell rfl, hB2.cell rfl⟩
  refine hK.out _ _ (InvG.mk trivial hP2) (fun _ => ?_)
  clear hK
  change wpAnyG _ _ _ _ _ _ _ _ #[_, _, _, _, _, _, _, _, _, _, _, _, _] ⟨#[_, _, _, _, _, _, _, _, _, _, _, _, _, _, _, _, _], _⟩ _
  refine wpAnyG_take (i := 10) (v := .pointer (some ⟨gg, 0, none⟩)) rfl (by kernel_rfl) (fun _ _ _ h => h) (.inl ⟨by rfl, fun w hw => by go_simp⟩) (InvG.mk trivial hP2) ?_
  change wpAnyG _ _ _ _ _ _ _ _ #[_, _, _, _, _, _, _, _, _, _, _, _, _] ⟨#[_, _, _, _, _, _, _, _, _, _, _, _, _, _, _, _, _], _⟩ _
  refine wpAnyG_take (i := 11) (v := .pointer (some ⟨gg, 0, none⟩)) rfl (by kernel_rfl) (fun _ _ _ h => h) (.inl ⟨by rfl, fun w hw => by go_simp⟩) (InvG.mk trivial hP2) ?_
  change wpAnyG _ _ _ _ _ _ _ _ #[_, _, _, _, _, _, _, _, _, _, _, _, _] ⟨#[_, _, _, _, _, _, _, _, _, _, _, _, _, _, _, _, _], _⟩ _
  refine wpAnyG_ready (rs := [12]) (by kernel_rfl) (by simp) ?_
  refine AllReadyG.plain rfl rfl (fun K hK => ?_) AllReadyG.nil
  refine wp_store_lay 29 _ _ rfl gg 0 v' [v'] [ov, .slice pa pes.length pc] (by go_simp) (by go_simp) (one_cells (owns_one ho2)) hB2 infoSs (show 0 + 1 ≤ 2 by decide) (by simpa using owns_one ho2) ?_
  intro w3 hB3 hg3 hs3
  have hB3 : Blk w3 gg [v', .slice pa pes.length pc] := hB3
  have HB3 := Lib.hid hB3
  have Ho3 : Hid (w3.ownsRow (gg + 1) 55 30 v' (oes.length + pes.length) (oes.flatten ++ pes.flatten)) := ho2.kept hg3 (.inr (fun e => own_ne_base ho2 e.symm))
  have Hb3 : Hid (Below gg w w3) := by
    have h1 : Below gg w w2 := Below.grown ((Below.refl gg w).drew) hg2 (Nat.le_of_lt Hgg.out) (fun k e => by have := (HD.out.oo.lt k e).1; omega)
    exact Below.grown h1 hg3 (Nat.le_trans (Nat.le_of_lt Hgg.out) hg2.size) (fun k e => by cases e; exact Nat.le_refl _)
  have HFr : Hid (∀ k, k < w.heap.size → k ≠ gg → ov.ownBlock ≠ some k → (k < w3.heap.size ∧ w3.heap[k]? = w.heap[k]?) ∧ v'.ownBlock ≠ some k) := fun k hk hkg hko => by
    have h1 := hg2.block k hk (fun e => hko e.symm)
    have h2 := hg3.block k (Nat.lt_of_lt_of_le hk hg2.size) (fun e => hkg (Option.some.inj e))
    refine ⟨⟨Nat.lt_of_lt_of_le hk (Nat.le_trans hg2.size hg3.size), h2.trans h1⟩, fun e => ?_⟩
    rcases hat with h | h
    · exact hko (h.symm.trans e)
    · rw [h] at e; have e := Option.some.inj e; have : k < w.drew.heap.size := hk; omega
  refine hK.out _ _ (InvG.past trivial (by kernel_rfl)) (fun _ => ?_)
  clear hK hP hP2 hg2 hat ho2 hB2 hg3 hs3
  refine wpAnyG_done (by kernel_rfl) ?_ _
  go_wp2_with (first
    | (refine wpList_store_blk1 rfl 29 _ _ rfl gg 1 (.slice none 0 0) rfl rfl [v', .slice pa pes.length pc] hB3 infoSs (show 1 + 1 ≤ 2 by decide) rfl ?_; (intro w4 hB4 hg4 hs4)))
  go_end0
  have hB4 : Blk w4 gg [v', .slice none 0 0] := hB4
  refine ⟨rfl, Below.grown Hb3.out hg4 (Nat.le_of_lt HB3.out.lt) (fun k e => by cases e; exact Nat.le_refl _), v', oes ++ pes, ⟨⟨?_, ⟨by simp, .inl ⟨rfl, rfl⟩⟩, fun k _ => by simp [Value.ownBlock], HG.out.ro.append HG.out.rp, by rw [ESs]⟩, hB4⟩, fun k hk hkg hko => ?_⟩
  · rw [List.flatten_append, List.length_append]
    exact Ho3.out.kept hg4 (.inr (fun e => own_ne_base Ho3.out e.symm))
  · obtain ⟨h1, h2⟩ := HFr.out k hk hkg hko
    exact ⟨(hg4.block k h1.1 (fun e => hkg (Option.some.inj e))).trans h1.2, h2⟩

end Go.Proofs.YtkldcjlkeblggaaDoor

/- edit's gatherer: keep and step, walked. -/
namespace Go.Proofs.YtkldcjlkeblggaaDoor
open Go.RowKit
open Val (V E)
set_option linter.unusedVariables false
set_option linter.unusedSimpArgs false

theorem infoES2 : (Tryd.prog.info? 55).map (fun i => (i.size, i.zero.map (fun z => z.cells.size))) = some (zES.length, some zES.length) := by kernel_rfl
theorem zES_one : ∀ u ∈ zES, u.oneCell' = true := by simp [zES, zV, zE, Value.oneCell']
theorem grown_of_alloc {a b : World} {o : Obj} {X : Option Nat} (h : (a.drew.alloc o).grownBy b X) : a.grownBy b X :=
  grown_trans (b := a.drew.alloc o) ⟨rfl, rfl, rfl, by simp, fun k hk _ => Below.heap_alloc a.drew o k hk⟩ ⟨h.os, h.tape, h.output, h.size, h.block⟩
theorem Rows2.keep {h : Frag} {w w' : World} {gg : Nat} {ov pv : Value} {out puts : List Val.St} {oes pes : List (List Value)} (hG : Rows2 h w gg ov pv out puts oes pes) (hb : Below w.heap.size w w') : Rows2 h w' gg ov pv out puts oes pes :=
  ⟨own_kept hG.oo hb, own_kept hG.po hb, hG.ne, hG.ro, hG.rp⟩
theorem yieldsIf_buildR {P : Program} {ops : Array Oper} {S : World → Prop} {op : Oper} {a : Act} (hw : Region.wanted op (yielded ops a.tmps) = true) (t : TypeId) (x y : Operand) (ho : op.op = .build t #[(0, x), (1, y)]) (v0 v1 v : Value) (hx : a.eval x = v0) (hy : a.eval y = v1)
    (hr : ∀ w, (Instr.build t #[(0, v0), (1, v1)]).run P w = .ok v w) : YieldsIf P ops S op v a :=
  .inl ⟨hw, fun w _ => by
    unfold execOp
    simp only [ho, List.map_toArray, List.map_cons, List.map_nil, hx, hy, Sem.run_bind, Sem.run_pure, hr w, Result.andThen_ok]⟩
/-- a keep's thirty cells -/
def keepC (c : Int) : List Value := .int .i64 1 :: .int .i64 c :: (zV ++ zE)
theorem keepC_run (c : Int) (w : World) : (Instr.build 55 #[(0, .int .i64 1), (1, .int .i64 c)]).run Tryd.prog w = .ok (.agg (keepC c).toArray) w := by kernel_rfl
theorem VR_zero (h : Frag) : VR h Val.v0 zV := by
  unfold Val.v0; rw [VR]
  exact ⟨_, _, _, [], [], [], rfl, ⟨by simp [maxLen], by simp [maxLen]⟩, ⟨FlatC.nil 8 h, FlatC.nil 7 h, FlatC.nil 14 h⟩, by rw [FsR], by rw [LsR], by rw [PsR]⟩
theorem ER_zero (h : Frag) : ER h (.mk 0 Val.v0 Val.v0 [] false ByteArray.empty ByteArray.empty [] []) zE := by
  rw [ER]
  exact ⟨zV, zV, _, _, _, [], [], [], rfl, ⟨by simp [maxLen], by simp [maxLen]⟩, ⟨VR_zero h, VR_zero h⟩, ⟨FlatC.nil 22 h, FlatC.nil 30 h, FlatC.nil 28 h⟩, by rw [EFs], by rw [ESs], by rw [EKs]⟩
theorem StR_keep (h : Frag) (c : Int) : StR h (1, c, Val.v0, .mk 0 Val.v0 Val.v0 [] false ByteArray.empty ByteArray.empty [] []) (keepC c) := ⟨zV, zE, rfl, VR_zero h, ER_zero h⟩

set_option maxRecDepth 100000 in
set_option maxHeartbeats 4000000 in
theorem gkeep_any (h : Frag) (w : World) (gg : Nat) (ov pv : Value) (out puts : List Val.St) (oes pes : List (List Value)) (hG : GatAt h w gg ov pv out puts oes pes) (hl : out.length + puts.length ≤ 1000000) (c : Int) (hc : 1 ≤ c) (hk : Val.lastQ 0 (out ++ puts) ≠ 1) :
    Calls Tryd.prog 82 #[.pointer (some ⟨gg, 0, none⟩), .int .i64 c] w (GatPost h w gg (Val.addKeep (out ++ puts) c) []) := by
  rw [Val.addKeep_snoc hk hc]
  have HFl := Lib.hid (flush_any h w gg ov pv out puts oes pes hG hl)
  have HK := Lib.hid hk
  have HL : Hid ((out ++ puts).length ≤ 1000000) := by show _ ≤ _; rw [List.length_append]; exact hl
  have HS := Lib.hid (StR_keep h c)
  have HLs := Lib.hid HS.out.len
  have Hbk := Lib.hid (keepC_run c)
  have Hgg := Lib.hid hG.blk.lt
  clear hG hl hk
  generalize hsc : keepC c = sc at *
  generalize hst : ((1, c, Val.v0, .mk 0 Val.v0 Val.v0 [] false ByteArray.empty ByteArray.empty [] []) : Val.St) = st at *
  clear hsc hst
  generalize out ++ puts = lst at *
  have hd0 : decide (c < 1) = false := decide_eq_false (by omega)
  go_enter Tryd.func82, Tryd.ntmps82
  go_wp2_with fail
  refine HFl.out.mono ?_
  rintro e w1 ⟨rfl, hb1, ov1, aes, hG1, hfr⟩
  clear hfr
  obtain ⟨oa, oc, hov, hrow, hnc, hcm, hnil⟩ := own_slice hG1.oo
  subst hov
  have HG := Lib.hid hG1.toRows2
  have HB := Lib.hid hG1.blk
  have Hb1 := Lib.hid hb1
  have hal := hG1.ro.len
  have Hbd : Hid ((aes.length + 1) * 496 ≤ 140737488355328) := by show _ ≤ _; have := HL.out; omega
  have q0 := hG1.blk.cell (o := 0) rfl
  have hFlat : FlatC 30 (frag w1) (.slice oa aes.length oc) aes := (FlatC.of_owns (E := []) HG.out.oo rfl (fun x hx => by
    obtain ⟨i, hi, rfl⟩ := List.getElem_of_mem hx
    have hi2 : i < lst.length := by rw [← hal]; exact hi
    obtain ⟨vc, xc, e, h1, h2⟩ := HG.out.ro.at hi2 hi
    rw [e]; simp [h1.len, h2.shape.len]) (.inr (by simp))).mono (fragE_le _ _)
  have HFlat := Lib.hid hFlat
  clear hG1 hb1 hrow hnc hcm hnil hFlat
  have Hal := Lib.hid hal; clear hal
  have Hfin : Hid (∀ Fw g2 c3, Below gg w1 Fw → Rows2 h Fw gg (.slice (some ⟨g2, 0, none⟩) (aes.length + 1) c3) (.slice none 0 0) (lst ++ [st]) [] (aes ++ [sc]) [] → Blk Fw gg [.slice (some ⟨g2, 0, none⟩) (aes.length + 1) c3, .slice none 0 0] → GatPost h w gg (lst ++ [st]) [] (.returned (.tuple #[])) Fw) :=
    fun Fw g2 c3 hb hr hB => ⟨rfl, Hb1.out.trans hb, _, _, _, _, hr, hB⟩
  have hal0 : ((aes.length : Nat) : Int) ≤ 1000000 := by have := HL.out; have := Hal.out; omega
  by_cases hz : 0 < aes.length
  · have hlt : aes.length - 1 < aes.length := by omega
    have hlt2 : aes.length - 1 < lst.length := by have := Hal.out; omega
    obtain ⟨b0, o0, hb0, hidx, hcell⟩ := FlatC.at HFlat.out (by decide) (i := aes.length - 1) hlt Tryd.underlying29 sizeES
    obtain ⟨vc, xc, hx, hv1, hv2⟩ := HG.out.ro.at hlt2 hlt
    have q1 : w1.cell? ⟨b0, o0, none⟩ = some (.int .i64 lst[aes.length - 1].1) := hcell 0 _ (by rw [hx]; rfl)
    have hkd : lst[aes.length - 1].1 ≠ 1 := by
      obtain ⟨z, h1, h2⟩ := Val.lastQ_get lst (by intro e; have h := Hal.out; rw [e] at h; have : aes.length = 0 := h; omega) 0
      rw [List.getLast?_eq_getElem?, ← Hal.out, List.getElem?_eq_getElem hlt2] at h1
      rw [Option.some.inj h1, h2]; exact HK.out
    rw [show ((aes.length - 1 : Nat) : Int) = (aes.length : Int) - 1 by omega] at hidx
    clear hcell hx hlt hv1 hv2
    generalize lst[aes.length - 1].1 = kd at *
    have hd1 : decide (0 ≤ (aes.length : Int) - 1) = true := decide_eq_true (by omega)
    have hd2 : decide (1 ≤ (aes.length : Int)) = true := decide_eq_true (by omega)
    have hd3 : decide (kd = 1) = false := decide_eq_false hkd
    have hd4 : (kd == 1) = false := by simpa using hkd
    clear hkd hlt2 hb0
    go_wp2_with fail
    clear q0 q1 hidx hd1 hd2 hd3 hd4 hz
    have hP0 : True := trivial
    have hP : w1.drew.cell? ⟨gg, 0, none⟩ = some (.slice oa aes.length oc) := HB.out.cell rfl
    refine wp_region_G 13 (fun w' => True) (fun w' => w'.cell? ⟨gg, 0, none⟩ = some (.slice oa aes.length oc)) (by kernel_rfl) hP0 hP (fun _ => ?_)
    refine wpAnyG_take (i := 0) (v := .pointer (some ⟨gg, 0, none⟩)) rfl (by kernel_rfl) (fun _ _ _ h => h) (.inl ⟨by rfl, fun w hw => by go_simp⟩) (InvG.mk hP0 hP) ?_
    change wpAnyG _ _ _ _ _ _ _ _ #[_, _, _, _, _, _, _, _, _, _, _, _, _, _] ⟨#[_, _, _, _, _, _, _, _, _, _, _, _, _, _, _, _, _, _, _, _, _, _, _, _, _, _, _, _, _, _, _, _, _, _, _, _, _, _, _, _, _, _, _, _, _, _, _, _, _, _, _, _, _, _], _⟩ _
    refine wpAnyG_take (i := 1) (v := .pointer (some ⟨gg, 0, none⟩)) rfl (by kernel_rfl) (fun _ _ _ h => h) (.inl ⟨by rfl, fun w hw => by go_simp⟩) (InvG.mk hP0 hP) ?_
    change wpAnyG _ _ _ _ _ _ _ _ #[_, _, _, _, _, _, _, _, _, _, _, _, _, _] ⟨#[_, _, _, _, _, _, _, _, _, _, _, _, _, _, _, _, _, _, _, _, _, _, _, _, _, _, _, _, _, _, _, _, _, _, _, _, _, _, _, _, _, _, _, _, _, _, _, _, _, _, _, _, _, _], _⟩ _
    refine wpAnyG_take (i := 2) (v := .pointer (some ⟨gg, 0, none⟩)) rfl (by kernel_rfl) (fun _ _ _ h => h) (.inl ⟨by rfl, fun w hw => by go_simp⟩) (InvG.mk hP0 hP) ?_
    change wpAnyG _ _ _ _ _ _ _ _ #[_, _, _, _, _, _, _, _, _, _, _, _, _, _] ⟨#[_, _, _, _, _, _, _, _, _, _, _, _, _, _, _, _, _, _, _, _, _, _, _, _, _, _, _, _, _, _, _, _, _, _, _, _, _, _, _, _, _, _, _, _, _, _, _, _, _, _, _, _, _, _], _⟩ _
    refine wpAnyG_take (i := 3) (v := (.slice oa aes.length oc)) rfl (by kernel_rfl) (fun _ _ _ h => h) (.inl ⟨by rfl, fun w hw => by have hc := hw.2; clear hw; go_simp⟩) (InvG.mk hP0 hP) ?_
    change wpAnyG _ _ _ _ _ _ _ _ #[_, _, _, _, _, _, _, _, _, _, _, _, _, _] ⟨#[_, _, _, _, _, _, _, _, _, _, _, _, _, _, _, _, _, _, _, _, _, _, _, _, _, _, _, _, _, _, _, _, _, _, _, _, _, _, _, _, _, _, _, _, _, _, _, _, _, _, _, _, _, _], _⟩ _
    refine wpAnyG_take0 (i := 4) (v := .int .i64 c) rfl (by kernel_rfl) (fun _ _ _ h => h) (.inl ⟨by rfl, fun w hw => by go_simp⟩) (InvG.mk hP0 hP) ?_
    change wpAnyG _ _ _ _ _ _ _ _ #[_, _, _, _, _, _, _, _, _, _, _, _, _, _] ⟨#[_, _, _, _, _, _, _, _, _, _, _, _, _, _, _, _, _, _, _, _, _, _, _, _, _, _, _, _, _, _, _, _, _, _, _, _, _, _, _, _, _, _, _, _, _, _, _, _, _, _, _, _, _, _], _⟩ _
    refine wpAnyG_take0 (i := 5) (v := .agg sc.toArray) rfl (by kernel_rfl) (fun _ _ _ h => h) (yieldsIf_buildR (by rfl) 55 _ _ rfl _ _ _ (by go_simp) (by go_simp) Hbk.out) (InvG.mk hP0 hP) ?_
    change wpAnyG _ _ _ _ _ _ _ _ #[_, _, _, _, _, _, _, _, _, _, _, _, _, _] ⟨#[_, _, _, _, _, _, _, _, _, _, _, _, _, _, _, _, _, _, _, _, _, _, _, _, _, _, _, _, _, _, _, _, _, _, _, _, _, _, _, _, _, _, _, _, _, _, _, _, _, _, _, _, _, _], _⟩ _
    refine wpAnyG_take0 (i := 6) (v := .int .i64 (aes.length : Nat)) rfl (by kernel_rfl) (fun _ _ _ h => h) (.inl ⟨by rfl, fun w hw => by go_simp⟩) (InvG.mk hP0 hP) ?_
    change wpAnyG _ _ _ _ _ _ _ _ #[_, _, _, _, _, _, _, _, _, _, _, _, _, _] ⟨#[_, _, _, _, _, _, _, _, _, _, _, _, _, _, _, _, _, _, _, _, _, _, _, _, _, _, _, _, _, _, _, _, _, _, _, _, _, _, _, _, _, _, _, _, _, _, _, _, _, _, _, _, _, _], _⟩ _
    refine wpAnyG_ready (rs := [7]) (by kernel_rfl) (by simp) ?_
    refine AllReadyG.plain rfl rfl (fun K hK => ?_) AllReadyG.nil
    refine wp_buildSlice1 29 55 _ rfl zES (.agg zES.toArray) (by rfl) Tryd.underlying29 infoES2 (by decide) (by decide) rfl ?_
    have hba : Below w1.heap.size w1 (w1.drew.alloc (.cells zES.toArray 55)) := ((Below.refl _ _).drew).alloc (Nat.le_refl _) _
    have hP0a : True := trivial
    have hBa : Blk (w1.drew.alloc (.cells zES.toArray 55)) gg [.slice oa aes.length oc, .slice none 0 0] := HB.out.below hba HB.out.lt
    refine hK.out _ _ (InvG.mk hP0a (hBa.cell rfl)) (fun _ => ?_)
    clear hK
    change wpAnyG _ _ _ _ _ _ _ _ #[_, _, _, _, _, _, _, _, _, _, _, _, _, _] ⟨#[_, _, _, _, _, _, _, _, _, _, _, _, _, _, _, _, _, _, _, _, _, _, _, _, _, _, _, _, _, _, _, _, _, _, _, _, _, _, _, _, _, _, _, _, _, _, _, _, _, _, _, _, _, _], _⟩ _
    refine wpAnyG_ready (rs := [8]) (by kernel_rfl) (by simp) ?_
    refine AllReadyG.plain rfl rfl (fun K hK => ?_) AllReadyG.nil
    obtain ⟨i0, hi0, hi1, hi2, hi3⟩ := info_parts T_ES.info
    have HGd := Lib.hid (HG.out.keep ((Below.refl w1.heap.size w1).drew))
    refine wp_append_lies _ _ _ 29 rfl (gg + 1) 55 i0 (.agg zES.toArray) 30 496 Tryd.underlying29 hi0 hi1 hi2 hi3 rfl (by decide) (.slice oa aes.length oc) aes.length aes.flatten (by go_simp) (HGd.out.oo.alloc _) ⟨w1.drew.heap.size, 0, none⟩ 1 1 zES (by go_simp) rfl (World.news_of_block (heap_alloc_new w1.drew _)) zES_one (by decide) (show aes.length + 1 ≤ maxLen by have := Hbd.out; unfold maxLen; omega) Hbd.out (Nat.le_trans (Nat.succ_le_of_lt HB.out.lt) (by simp)) (w1.heap.size + 1) (by simp) ?_
    intro g2 c3 w2 ho2 hg2 hat hl2
    clear hi0 hi1 hi2 hi3
    have hgr2 : w1.grownBy w2 (Value.slice oa aes.length oc).ownBlock := grown_of_alloc hg2
    have hB2 := hBa.grown hg2 (own_ne_base HGd.out.oo)
    have hxl : aes.flatten.length = aes.length * 30 := HGd.out.ro.flat_len
    have hP02 : True := trivial
    refine hK.out _ _ (InvG.mk hP02 (hB2.cell rfl)) (fun _ => ?_)
    clear hK
    change wpAnyG _ _ _ _ _ _ _ _ #[_, _, _, _, _, _, _, _, _, _, _, _, _, _] ⟨#[_, _, _, _, _, _, _, _, _, _, _, _, _, _, _, _, _, _, _, _, _, _, _, _, _, _, _, _, _, _, _, _, _, _, _, _, _, _, _, _, _, _, _, _, _, _, _, _, _, _, _, _, _, _], _⟩ _
    have hix := own_idx (P := Tryd.prog) (t := 29) (g := g2) (cap := c3) (show aes.length < aes.length + 1 by omega) Tryd.underlying29 sizeES
    have hq2 : w2.cell? ⟨gg, 0, none⟩ = some (.slice oa aes.length oc) := hB2.cell rfl
    refine wpAnyG_take0 (i := 9) (v := .pointer (some ⟨g2, aes.length * 30, none⟩)) rfl (by kernel_rfl) (fun _ _ _ h => h) (.inl ⟨by rfl, fun w hw => by have hi := hix w; clear hix; go_simp⟩) (InvG.mk hP02 hq2) ?_
    change wpAnyG _ _ _ _ _ _ _ _ #[_, _, _, _, _, _, _, _, _, _, _, _, _, _] ⟨#[_, _, _, _, _, _, _, _, _, _, _, _, _, _, _, _, _, _, _, _, _, _, _, _, _, _, _, _, _, _, _, _, _, _, _, _, _, _, _, _, _, _, _, _, _, _, _, _, _, _, _, _, _, _], _⟩ _
    refine wpAnyG_take (i := 11) (v := .pointer (some ⟨gg, 0, none⟩)) rfl (by kernel_rfl) (fun _ _ _ h => h) (.inl ⟨by rfl, fun w hw => by go_simp⟩) (InvG.mk hP02 hq2) ?_
    change wpAnyG _ _ _ _ _ _ _ _ #[_, _, _, _, _, _, _, _, _, _, _, _, _, _] ⟨#[_, _, _, _, _, _, _, _, _, _, _, _, _, _, _, _, _, _, _, _, _, _, _, _, _, _, _, _, _, _, _, _, _, _, _, _, _, _, _, _, _, _, _, _, _, _, _, _, _, _, _, _, _, _], _⟩ _
    refine wpAnyG_take (i := 12) (v := .pointer (some ⟨gg, 0, none⟩)) rfl (by kernel_rfl) (fun _ _ _ h => h) (.inl ⟨by rfl, fun w hw => by go_simp⟩) (InvG.mk hP02 hq2) ?_
    change wpAnyG _ _ _ _ _ _ _ _ #[_, _, _, _, _, _, _, _, _, _, _, _, _, _] ⟨#[_, _, _, _, _, _, _, _, _, _, _, _, _, _, _, _, _, _, _, _, _, _, _, _, _, _, _, _, _, _, _, _, _, _, _, _, _, _, _, _, _, _, _, _, _, _, _, _, _, _, _, _, _, _], _⟩ _
    have hpt : patch (aes.flatten ++ zES) (aes.length * 30) sc = aes.flatten ++ sc := by have e := patch_at (p := aes.flatten) (q := zES) (r := []) (vs := sc) hxl (by rw [HLs.out]; rfl); simpa using e
    have hg2b : gg + 1 ≤ g2 := (ho2.lt g2 rfl).1
    have hne1 : some gg ≠ some g2 := by intro e; cases e; omega
    have hne2 : (Value.slice (some ⟨g2, 0, none⟩) (aes.length + 1) c3).ownBlock ≠ some gg := fun e => hne1 e.symm
    have HPush := Lib.hid (fun (wA Fw : World) (X1 X2 : Option Nat) (hX : (X1 = some g2 ∧ X2 = some gg) ∨ (X1 = some gg ∧ X2 = some g2)) (h1 : w2.grownBy wA X1) (h2 : wA.grownBy Fw X2) (ho : Fw.ownsRow (gg + 1) 55 30 (.slice (some ⟨g2, 0, none⟩) (aes.length + 1) c3) (aes.length + 1) (aes.flatten ++ sc)) => HG.out.push HS.out HB.out.lt hgr2 (hat.imp id (fun e => by rw [e]; exact Nat.le_succ _)) hg2b hX h1 h2 ho)
    refine wpAnyG_ready (rs := [10, 13]) (by kernel_rfl) (by simp) ?_
    refine AllReadyG.plain rfl rfl (fun K hK => ?_) (AllReadyG.plain rfl rfl (fun K hK => ?_) AllReadyG.nil)
    · refine wp_store_own (v := .agg sc.toArray) (vs := sc) (o := aes.length * 30) (g := g2) 55 _ _ rfl (by go_simp) (by go_simp) rfl ho2 (infoES.trans (congrArg some HLs.out.symm)) (by rw [List.length_append, hxl, HLs.out]; exact Nat.le_refl _) HS.out.one ?_
      intro w3 ho3 hg3 hs3
      rw [hpt] at ho3
      have hB3 := hB2.grown hg3 hne1
      have hP03 : True := trivial
      refine hK.out _ _ (InvG.mk hP03 (hB3.cell rfl)) (fun _ => ?_)
      clear hK
      change wpAnyG _ _ _ _ _ _ _ _ #[_, _, _, _, _, _, _, _, _, _, _, _, _, _] ⟨#[_, _, _, _, _, _, _, _, _, _, _, _, _, _, _, _, _, _, _, _, _, _, _, _, _, _, _, _, _, _, _, _, _, _, _, _, _, _, _, _, _, _, _, _, _, _, _, _, _, _, _, _, _, _], _⟩ _
      refine wpAnyG_ready (rs := [13]) (by kernel_rfl) (by simp) ?_
      refine AllReadyG.plain rfl rfl (fun K hK => ?_) AllReadyG.nil
      refine wp_store_lay 29 _ _ rfl gg 0 (.slice (some ⟨g2, 0, none⟩) (aes.length + 1) c3) [(.slice (some ⟨g2, 0, none⟩) (aes.length + 1) c3)] [.slice oa aes.length oc, .slice none 0 0] (by go_simp) (by go_simp) rfl hB3 infoSs (show 0 + 1 ≤ 2 by decide) (by simp [Value.oneCell']) ?_
      intro w4 hB4 hg4 hs4
      have HBE : Hid (Blk w4 gg [.slice (some ⟨g2, 0, none⟩) (aes.length + 1) c3, .slice none 0 0]) := hB4
      have HE := Lib.hid (HPush.out w3 w4 _ _ (.inl ⟨rfl, rfl⟩) hg3 hg4 (ho3.kept hg4 (.inr hne2)))
      have hP04 : True := trivial
      refine hK.out _ _ (InvG.past hP04 (by kernel_rfl)) (fun _ => ?_)
      clear hK
      change wpAnyG _ _ _ _ _ _ _ _ #[_, _, _, _, _, _, _, _, _, _, _, _, _, _] ⟨#[_, _, _, _, _, _, _, _, _, _, _, _, _, _, _, _, _, _, _, _, _, _, _, _, _, _, _, _, _, _, _, _, _, _, _, _, _, _, _, _, _, _, _, _, _, _, _, _, _, _, _, _, _, _], _⟩ _
      refine wpAnyG_done (by kernel_rfl) ?_ _
      clear hP0 hP hba hP0a hBa ho2 hg2 hat hl2 hgr2 hB2 hxl hP02 hix hq2 hpt hg2b hne1 hne2 ho3 hg3 hs3 hB3 hP03 hB4 hg4 hs4 hP04
      go_wp2_with fail
      go_end0
      exact Hfin.out _ _ _ HE.out.1 HE.out.2 HBE.out
    · refine wp_store_lay 29 _ _ rfl gg 0 (.slice (some ⟨g2, 0, none⟩) (aes.length + 1) c3) [(.slice (some ⟨g2, 0, none⟩) (aes.length + 1) c3)] [.slice oa aes.length oc, .slice none 0 0] (by go_simp) (by go_simp) rfl hB2 infoSs (show 0 + 1 ≤ 2 by decide) (by simp [Value.oneCell']) ?_
      intro w3 hB3 hg3 hs3
      have ho3 := ho2.kept hg3 (.inr hne2)
      have hP03 : True := trivial
      refine hK.out _ _ (InvG.past hP03 (by kernel_rfl)) (fun _ => ?_)
      clear hK
      change wpAnyG _ _ _ _ _ _ _ _ #[_, _, _, _, _, _, _, _, _, _, _, _, _, _] ⟨#[_, _, _, _, _, _, _, _, _, _, _, _, _, _, _, _, _, _, _, _, _, _, _, _, _, _, _, _, _, _, _, _, _, _, _, _, _, _, _, _, _, _, _, _, _, _, _, _, _, _, _, _, _, _], _⟩ _
      refine wpAnyG_ready (rs := [10]) (by kernel_rfl) (by simp) ?_
      refine AllReadyG.plain rfl rfl (fun K hK => ?_) AllReadyG.nil
      refine wp_store_own (v := .agg sc.toArray) (vs := sc) (o := aes.length * 30) (g := g2) 55 _ _ rfl (by go_simp) (by go_simp) rfl ho3 (infoES.trans (congrArg some HLs.out.symm)) (by rw [List.length_append, hxl, HLs.out]; exact Nat.le_refl _) HS.out.one ?_
      intro w4 ho4 hg4 hs4
      rw [hpt] at ho4
      have HBE : Hid (Blk w4 gg [.slice (some ⟨g2, 0, none⟩) (aes.length + 1) c3, .slice none 0 0]) := hB3.grown hg4 hne1
      have HE := Lib.hid (HPush.out w3 w4 _ _ (.inr ⟨rfl, rfl⟩) hg3 hg4 ho4)
      have hP04 : True := trivial
      refine hK.out _ _ (InvG.past hP04 (by kernel_rfl)) (fun _ => ?_)
      clear hK
      change wpAnyG _ _ _ _ _ _ _ _ #[_, _, _, _, _, _, _, _, _, _, _, _, _, _] ⟨#[_, _, _, _, _, _, _, _, _, _, _, _, _, _, _, _, _, _, _, _, _, _, _, _, _, _, _, _, _, _, _, _, _, _, _, _, _, _, _, _, _, _, _, _, _, _, _, _, _, _, _, _, _, _], _⟩ _
      refine wpAnyG_done (by kernel_rfl) ?_ _
      clear hP0 hP hba hP0a hBa ho2 hg2 hat hl2 hgr2 hB2 hxl hP02 hix hq2 hpt hg2b hne1 hne2 ho3 hg3 hs3 hB3 hP03 ho4 hg4 hs4 hP04
      go_wp2_with fail
      go_end0
      exact Hfin.out _ _ _ HE.out.1 HE.out.2 HBE.out
  · have hd1 : decide (0 ≤ (aes.length : Int) - 1) = false := decide_eq_false (by omega)
    have hd2 : decide (1 ≤ (aes.length : Int)) = false := decide_eq_false (by omega)
    have hd3 : (aes.length : Int) - 1 < 0 := by omega
    go_wp2_with fail
    clear q0 hd1 hd2 hd3 hz
    have hP0 : True := trivial
    have hP : w1.drew.cell? ⟨gg, 0, none⟩ = some (.slice oa aes.length oc) := HB.out.cell rfl
    refine wp_region_G 13 (fun w' => True) (fun w' => w'.cell? ⟨gg, 0, none⟩ = some (.slice oa aes.length oc)) (by kernel_rfl) hP0 hP (fun _ => ?_)
    refine wpAnyG_take (i := 0) (v := .pointer (some ⟨gg, 0, none⟩)) rfl (by kernel_rfl) (fun _ _ _ h => h) (.inl ⟨by rfl, fun w hw => by go_simp⟩) (InvG.mk hP0 hP) ?_
    change wpAnyG _ _ _ _ _ _ _ _ #[_, _, _, _, _, _, _, _, _, _, _, _, _, _] ⟨#[_, _, _, _, _, _, _, _, _, _, _, _, _, _, _, _, _, _, _, _, _, _, _, _, _, _, _, _, _, _, _, _, _, _, _, _, _, _, _, _, _, _, _, _, _, _, _, _, _, _, _, _, _, _], _⟩ _
    refine wpAnyG_take (i := 1) (v := .pointer (some ⟨gg, 0, none⟩)) rfl (by kernel_rfl) (fun _ _ _ h => h) (.inl ⟨by rfl, fun w hw => by go_simp⟩) (InvG.mk hP0 hP) ?_
    change wpAnyG _ _ _ _ _ _ _ _ #[_, _, _, _, _, _, _, _, _, _, _, _, _, _] ⟨#[_, _, _, _, _, _, _, _, _, _, _, _, _, _, _, _, _, _, _, _, _, _, _, _, _, _, _, _, _, _, _, _, _, _, _, _, _, _, _, _, _, _, _, _, _, _, _, _, _, _, _, _, _, _], _⟩ _
    refine wpAnyG_take (i := 2) (v := .pointer (some ⟨gg, 0, none⟩)) rfl (by kernel_rfl) (fun _ _ _ h => h) (.inl ⟨by rfl, fun w hw => by go_simp⟩) (InvG.mk hP0 hP) ?_
    change wpAnyG _ _ _ _ _ _ _ _ #[_, _, _, _, _, _, _, _, _, _, _, _, _, _] ⟨#[_, _, _, _, _, _, _, _, _, _, _, _, _, _, _, _, _, _, _, _, _, _, _, _, _, _, _, _, _, _, _, _, _, _, _, _, _, _, _, _, _, _, _, _, _, _, _, _, _, _, _, _, _, _], _⟩ _
    refine wpAnyG_take (i := 3) (v := (.slice oa aes.length oc)) rfl (by kernel_rfl) (fun _ _ _ h => h) (.inl ⟨by rfl, fun w hw => by have hc := hw.2; clear hw; go_simp⟩) (InvG.mk hP0 hP) ?_
    change wpAnyG _ _ _ _ _ _ _ _ #[_, _, _, _, _, _, _, _, _, _, _, _, _, _] ⟨#[_, _, _, _, _, _, _, _, _, _, _, _, _, _, _, _, _, _, _, _, _, _, _, _, _, _, _, _, _, _, _, _, _, _, _, _, _, _, _, _, _, _, _, _, _, _, _, _, _, _, _, _, _, _], _⟩ _
    refine wpAnyG_take0 (i := 4) (v := .int .i64 c) rfl (by kernel_rfl) (fun _ _ _ h => h) (.inl ⟨by rfl, fun w hw => by go_simp⟩) (InvG.mk hP0 hP) ?_
    change wpAnyG _ _ _ _ _ _ _ _ #[_, _, _, _, _, _, _, _, _, _, _, _, _, _] ⟨#[_, _, _, _, _, _, _, _, _, _, _, _, _, _, _, _, _, _, _, _, _, _, _, _, _, _, _, _, _, _, _, _, _, _, _, _, _, _, _, _, _, _, _, _, _, _, _, _, _, _, _, _, _, _], _⟩ _
    refine wpAnyG_take0 (i := 5) (v := .agg sc.toArray) rfl (by kernel_rfl) (fun _ _ _ h => h) (yieldsIf_buildR (by rfl) 55 _ _ rfl _ _ _ (by go_simp) (by go_simp) Hbk.out) (InvG.mk hP0 hP) ?_
    change wpAnyG _ _ _ _ _ _ _ _ #[_, _, _, _, _, _, _, _, _, _, _, _, _, _] ⟨#[_, _, _, _, _, _, _, _, _, _, _, _, _, _, _, _, _, _, _, _, _, _, _, _, _, _, _, _, _, _, _, _, _, _, _, _, _, _, _, _, _, _, _, _, _, _, _, _, _, _, _, _, _, _], _⟩ _
    refine wpAnyG_take0 (i := 6) (v := .int .i64 (aes.length : Nat)) rfl (by kernel_rfl) (fun _ _ _ h => h) (.inl ⟨by rfl, fun w hw => by go_simp⟩) (InvG.mk hP0 hP) ?_
    change wpAnyG _ _ _ _ _ _ _ _ #[_, _, _, _, _, _, _, _, _, _, _, _, _, _] ⟨#[_, _, _, _, _, _, _, _, _, _, _, _, _, _, _, _, _, _, _, _, _, _, _, _, _, _, _, _, _, _, _, _, _, _, _, _, _, _, _, _, _, _, _, _, _, _, _, _, _, _, _, _, _, _], _⟩ _
    refine wpAnyG_ready (rs := [7]) (by kernel_rfl) (by simp) ?_
    refine AllReadyG.plain rfl rfl (fun K hK => ?_) AllReadyG.nil
    refine wp_buildSlice1 29 55 _ rfl zES (.agg zES.toArray) (by rfl) Tryd.underlying29 infoES2 (by decide) (by decide) rfl ?_
    have hba : Below w1.heap.size w1 (w1.drew.alloc (.cells zES.toArray 55)) := ((Below.refl _ _).drew).alloc (Nat.le_refl _) _
    have hP0a : True := trivial
    have hBa : Blk (w1.drew.alloc (.cells zES.toArray 55)) gg [.slice oa aes.length oc, .slice none 0 0] := HB.out.below hba HB.out.lt
    refine hK.out _ _ (InvG.mk hP0a (hBa.cell rfl)) (fun _ => ?_)
    clear hK
    change wpAnyG _ _ _ _ _ _ _ _ #[_, _, _, _, _, _, _, _, _, _, _, _, _, _] ⟨#[_, _, _, _, _, _, _, _, _, _, _, _, _, _, _, _, _, _, _, _, _, _, _, _, _, _, _, _, _, _, _, _, _, _, _, _, _, _, _, _, _, _, _, _, _, _, _, _, _, _, _, _, _, _], _⟩ _
    refine wpAnyG_ready (rs := [8]) (by kernel_rfl) (by simp) ?_
    refine AllReadyG.plain rfl rfl (fun K hK => ?_) AllReadyG.nil
    obtain ⟨i0, hi0, hi1, hi2, hi3⟩ := info_parts T_ES.info
    have HGd := Lib.hid (HG.out.keep ((Below.refl w1.heap.size w1).drew))
    refine wp_append_lies _ _ _ 29 rfl (gg + 1) 55 i0 (.agg zES.toArray) 30 496 Tryd.underlying29 hi0 hi1 hi2 hi3 rfl (by decide) (.slice oa aes.length oc) aes.length aes.flatten (by go_simp) (HGd.out.oo.alloc _) ⟨w1.drew.heap.size, 0, none⟩ 1 1 zES (by go_simp) rfl (World.news_of_block (heap_alloc_new w1.drew _)) zES_one (by decide) (show aes.length + 1 ≤ maxLen by have := Hbd.out; unfold maxLen; omega) Hbd.out (Nat.le_trans (Nat.succ_le_of_lt HB.out.lt) (by simp)) (w1.heap.size + 1) (by simp) ?_
    intro g2 c3 w2 ho2 hg2 hat hl2
    clear hi0 hi1 hi2 hi3
    have hgr2 : w1.grownBy w2 (Value.slice oa aes.length oc).ownBlock := grown_of_alloc hg2
    have hB2 := hBa.grown hg2 (own_ne_base HGd.out.oo)
    have hxl : aes.flatten.length = aes.length * 30 := HGd.out.ro.flat_len
    have hP02 : True := trivial
    refine hK.out _ _ (InvG.mk hP02 (hB2.cell rfl)) (fun _ => ?_)
    clear hK
    change wpAnyG _ _ _ _ _ _ _ _ #[_, _, _, _, _, _, _, _, _, _, _, _, _, _] ⟨#[_, _, _, _, _, _, _, _, _, _, _, _, _, _, _, _, _, _, _, _, _, _, _, _, _, _, _, _, _, _, _, _, _, _, _, _, _, _, _, _, _, _, _, _, _, _, _, _, _, _, _, _, _, _], _⟩ _
    have hix := own_idx (P := Tryd.prog) (t := 29) (g := g2) (cap := c3) (show aes.length < aes.length + 1 by omega) Tryd.underlying29 sizeES
    have hq2 : w2.cell? ⟨gg, 0, none⟩ = some (.slice oa aes.length oc) := hB2.cell rfl
    refine wpAnyG_take0 (i := 9) (v := .pointer (some ⟨g2, aes.length * 30, none⟩)) rfl (by kernel_rfl) (fun _ _ _ h => h) (.inl ⟨by rfl, fun w hw => by have hi := hix w; clear hix; go_simp⟩) (InvG.mk hP02 hq2) ?_
    change wpAnyG _ _ _ _ _ _ _ _ #[_, _, _, _, _, _, _, _, _, _, _, _, _, _] ⟨#[_, _, _, _, _, _, _, _, _, _, _, _, _, _, _, _, _, _, _, _, _, _, _, _, _, _, _, _, _, _, _, _, _, _, _, _, _, _, _, _, _, _, _, _, _, _, _, _, _, _, _, _, _, _], _⟩ _
    refine wpAnyG_take (i := 11) (v := .pointer (some ⟨gg, 0, none⟩)) rfl (by kernel_rfl) (fun _ _ _ h => h) (.inl ⟨by rfl, fun w hw => by go_simp⟩) (InvG.mk hP02 hq2) ?_
    change wpAnyG _ _ _ _ _ _ _ _ #[_, _, _, _, _, _, _, _, _, _, _, _, _, _] ⟨#[_, _, _, _, _, _, _, _, _, _, _, _, _, _, _, _, _, _, _, _, _, _, _, _, _, _, _, _, _, _, _, _, _, _, _, _, _, _, _, _, _, _, _, _, _, _, _, _, _, _, _, _, _, _], _⟩ _
    refine wpAnyG_take (i := 12) (v := .pointer (some ⟨gg, 0, none⟩)) rfl (by kernel_rfl) (fun _ _ _ h => h) (.inl ⟨by rfl, fun w hw => by go_simp⟩) (InvG.mk hP02 hq2) ?_
    change wpAnyG _ _ _ _ _ _ _ _ #[_, _, _, _, _, _, _, _, _, _, _, _, _, _] ⟨#[_, _, _, _, _, _, _, _, _, _, _, _, _, _, _, _, _, _, _, _, _, _, _, _, _, _, _, _, _, _, _, _, _, _, _, _, _, _, _, _, _, _, _, _, _, _, _, _, _, _, _, _, _, _], _⟩ _
    have hpt : patch (aes.flatten ++ zES) (aes.length * 30) sc = aes.flatten ++ sc := by have e := patch_at (p := aes.flatten) (q := zES) (r := []) (vs := sc) hxl (by rw [HLs.out]; rfl); simpa using e
    have hg2b : gg + 1 ≤ g2 := (ho2.lt g2 rfl).1
    have hne1 : some gg ≠ some g2 := by intro e; cases e; omega
    have hne2 : (Value.slice (some ⟨g2, 0, none⟩) (aes.length + 1) c3).ownBlock ≠ some gg := fun e => hne1 e.symm
    have HPush := Lib.hid (fun (wA Fw : World) (X1 X2 : Option Nat) (hX : (X1 = some g2 ∧ X2 = some gg) ∨ (X1 = some gg ∧ X2 = some g2)) (h1 : w2.grownBy wA X1) (h2 : wA.grownBy Fw X2) (ho : Fw.ownsRow (gg + 1) 55 30 (.slice (some ⟨g2, 0, none⟩) (aes.length + 1) c3) (aes.length + 1) (aes.flatten ++ sc)) => HG.out.push HS.out HB.out.lt hgr2 (hat.imp id (fun e => by rw [e]; exact Nat.le_succ _)) hg2b hX h1 h2 ho)
    refine wpAnyG_ready (rs := [10, 13]) (by kernel_rfl) (by simp) ?_
    refine AllReadyG.plain rfl rfl (fun K hK => ?_) (AllReadyG.plain rfl rfl (fun K hK => ?_) AllReadyG.nil)
    · refine wp_store_own (v := .agg sc.toArray) (vs := sc) (o := aes.length * 30) (g := g2) 55 _ _ rfl (by go_simp) (by go_simp) rfl ho2 (infoES.trans (congrArg some HLs.out.symm)) (by rw [List.length_append, hxl, HLs.out]; exact Nat.le_refl _) HS.out.one ?_
      intro w3 ho3 hg3 hs3
      rw [hpt] at ho3
      have hB3 := hB2.grown hg3 hne1
      have hP03 : True := trivial
      refine hK.out _ _ (InvG.mk hP03 (hB3.cell rfl)) (fun _ => ?_)
      clear hK
      change wpAnyG _ _ _ _ _ _ _ _ #[_, _, _, _, _, _, _, _, _, _, _, _, _, _] ⟨#[_, _, _, _, _, _, _, _, _, _, _, _, _, _, _, _, _, _, _, _, _, _, _, _, _, _, _, _, _, _, _, _, _, _, _, _, _, _, _, _, _, _, _, _, _, _, _, _, _, _, _, _, _, _], _⟩ _
      refine wpAnyG_ready (rs := [13]) (by kernel_rfl) (by simp) ?_
      refine AllReadyG.plain rfl rfl (fun K hK => ?_) AllReadyG.nil
      refine wp_store_lay 29 _ _ rfl gg 0 (.slice (some ⟨g2, 0, none⟩) (aes.length + 1) c3) [(.slice (some ⟨g2, 0, none⟩) (aes.length + 1) c3)] [.slice oa aes.length oc, .slice none 0 0] (by go_simp) (by go_simp) rfl hB3 infoSs (show 0 + 1 ≤ 2 by decide) (by simp [Value.oneCell']) ?_
      intro w4 hB4 hg4 hs4
      have HBE : Hid (Blk w4 gg [.slice (some ⟨g2, 0, none⟩) (aes.length + 1) c3, .slice none 0 0]) := hB4
      have HE := Lib.hid (HPush.out w3 w4 _ _ (.inl ⟨rfl, rfl⟩) hg3 hg4 (ho3.kept hg4 (.inr hne2)))
      have hP04 : True := trivial
      refine hK.out _ _ (InvG.past hP04 (by kernel_rfl)) (fun _ => ?_)
      clear hK
      change wpAnyG _ _ _ _ _ _ _ _ #[_, _, _, _, _, _, _, _, _, _, _, _, _, _] ⟨#[_, _, _, _, _, _, _, _, _, _, _, _, _, _, _, _, _, _, _, _, _, _, _, _, _, _, _, _, _, _, _, _, _, _, _, _, _, _, _, _, _, _, _, _, _, _, _, _, _, _, _, _, _, _], _⟩ _
      refine wpAnyG_done (by kernel_rfl) ?_ _
      clear hP0 hP hba hP0a hBa ho2 hg2 hat hl2 hgr2 hB2 hxl hP02 hix hq2 hpt hg2b hne1 hne2 ho3 hg3 hs3 hB3 hP03 hB4 hg4 hs4 hP04
      go_wp2_with fail
      go_end0
      exact Hfin.out _ _ _ HE.out.1 HE.out.2 HBE.out
    · refine wp_store_lay 29 _ _ rfl gg 0 (.slice (some ⟨g2, 0, none⟩) (aes.length + 1) c3) [(.slice (some ⟨g2, 0, none⟩) (aes.length + 1) c3)] [.slice oa aes.length oc, .slice none 0 0] (by go_simp) (by go_simp) rfl hB2 infoSs (show 0 + 1 ≤ 2 by decide) (by simp [Value.oneCell']) ?_
      intro w3 hB3 hg3 hs3
      have ho3 := ho2.kept hg3 (.inr hne2)
      have hP03 : True := trivial
      refine hK.out _ _ (InvG.past hP03 (by kernel_rfl)) (fun _ => ?_)
      clear hK
      change wpAnyG _ _ _ _ _ _ _ _ #[_, _, _, _, _, _, _, _, _, _, _, _, _, _] ⟨#[_, _, _, _, _, _, _, _, _, _, _, _, _, _, _, _, _, _, _, _, _, _, _, _, _, _, _, _, _, _, _, _, _, _, _, _, _, _, _, _, _, _, _, _, _, _, _, _, _, _, _, _, _, _], _⟩ _
      refine wpAnyG_ready (rs := [10]) (by kernel_rfl) (by simp) ?_
      refine AllReadyG.plain rfl rfl (fun K hK => ?_) AllReadyG.nil
      refine wp_store_own (v := .agg sc.toArray) (vs := sc) (o := aes.length * 30) (g := g2) 55 _ _ rfl (by go_simp) (by go_simp) rfl ho3 (infoES.trans (congrArg some HLs.out.symm)) (by rw [List.length_append, hxl, HLs.out]; exact Nat.le_refl _) HS.out.one ?_
      intro w4 ho4 hg4 hs4
      rw [hpt] at ho4
      have HBE : Hid (Blk w4 gg [.slice (some ⟨g2, 0, none⟩) (aes.length + 1) c3, .slice none 0 0]) := hB3.grown hg4 hne1
      have HE := Lib.hid (HPush.out w3 w4 _ _ (.inr ⟨rfl, rfl⟩) hg3 hg4 ho4)
      have hP04 : True := trivial
      refine hK.out _ _ (InvG.past hP04 (by kernel_rfl)) (fun _ => ?_)
      clear hK
      change wpAnyG _ _ _ _ _ _ _ _ #[_, _, _, _, _, _, _, _, _, _, _, _, _, _] ⟨#[_, _, _, _, _, _, _, _, _, _, _, _, _, _, _, _, _, _, _, _, _, _, _, _, _, _, _, _, _, _, _, _, _, _, _, _, _, _, _, _, _, _, _, _, _, _, _, _, _, _, _, _, _, _], _⟩ _
      refine wpAnyG_done (by kernel_rfl) ?_ _
      clear hP0 hP hba hP0a hBa ho2 hg2 hat hl2 hgr2 hB2 hxl hP02 hix hq2 hpt hg2b hne1 hne2 ho3 hg3 hs3 hB3 hP03 ho4 hg4 hs4 hP04
      go_wp2_with fail
      go_end0
      exact Hfin.out _ _ _ HE.out.1 HE.out.2 HBE.out

end Go.Proofs.YtkldcjlkeblggaaDoor

/- edit's gatherer: step, walked. -/
namespace Go.Proofs.YtkldcjlkeblggaaDoor
open Go.RowKit
open Val (V E)
set_option linter.unusedVariables false
set_option linter.unusedSimpArgs false

/-- a step's cells that the gatherer looks at -/
theorem StR.c0 {h : Frag} {s : Val.St} {cs : List Value} (hs : StR h s cs) : cs[0]? = some (.int .i64 s.1) := by
  obtain ⟨vc, xc, rfl, _⟩ := hs; rfl
theorem StR.c1 {h : Frag} {s : Val.St} {cs : List Value} (hs : StR h s cs) : cs[1]? = some (.int .i64 s.2.1) := by
  obtain ⟨vc, xc, rfl, _⟩ := hs; rfl
theorem StR.c9 {h : Frag} {s : Val.St} {cs : List Value} (hs : StR h s cs) : cs[9]? = some (.int .i64 s.2.2.2.kind) := by
  obtain ⟨vc, xc, rfl, h2, h3⟩ := hs
  have h9 : (Value.int .i64 s.1 :: .int .i64 s.2.1 :: vc).length = 9 := by simp [h2.len]
  rw [show Value.int .i64 s.1 :: .int .i64 s.2.1 :: (vc ++ xc) = (Value.int .i64 s.1 :: .int .i64 s.2.1 :: vc) ++ xc from rfl, List.getElem?_append_right (by omega), h9]
  exact h3.k0
theorem lt_flat {h : Frag} {w : World} {gg : Nat} {ov pv : Value} {out puts : List Val.St} {oes pes : List (List Value)} (H : Rows2 h w gg ov pv out puts oes pes) : ∀ k, w.heap.size ≤ k → ov.ownBlock ≠ some k := fun k hk e => by
  have := (H.oo.lt k e).2; omega

set_option maxRecDepth 100000 in
set_option maxHeartbeats 4000000 in
theorem gstep_keep (h : Frag) (w : World) (gg : Nat) (ov pv : Value) (out puts : List Val.St) (oes pes : List (List Value)) (hG : GatAt h w gg ov pv out puts oes pes) (hl : out.length + puts.length ≤ 1000000) (s : Val.St) (sc : List Value) (hs : StR h s sc) (hk : s.1 = 1) (hc : 1 ≤ s.2.1) (hn : Val.lastQ 0 (out ++ puts) ≠ 1) :
    Calls Tryd.prog 73 #[.pointer (some ⟨gg, 0, none⟩), .agg sc.toArray] w (GatPost h w gg (Val.addKeep (out ++ puts) s.2.1) []) := by
  have H0 := Lib.hid (fun (w2 : World) (g : Nat) (hB : Blk w2 g sc) => And.intro (hB.cell hs.c0) (And.intro (hB.cell hs.c1) (show w2.cell? ⟨g, 9, none⟩ = some _ from hB.cell hs.c9)))
  have HLs := Lib.hid hs.len
  have HS := Lib.hid hs
  have HG0 := Lib.hid hG
  have Hgg := Lib.hid hG.blk.lt
  have Hol := Lib.hid hG.ro.len
  have Hpl := Lib.hid hG.rp.len
  have HK := Lib.hid (fun (wx : World) (hb : Below w.heap.size w wx) => gkeep_any h wx gg ov pv out puts oes pes (hG.keep hb) hl s.2.1 hc hn)
  rw [hk] at H0
  generalize s.2.1 = c at *
  have hd1 : decide (1 ≤ c) = true := decide_eq_true hc
  clear hn hk
  clear hG hs
  go_enter Tryd.func73, Tryd.ntmps73
  go_wp2_with (first
    | (refine wpList_box_lay rfl 55 _ rfl _ rfl ?_; (intro w0 g3 hg3 hB0 hb0; obtain ⟨r0, r1, r9⟩ := H0.out w0 g3 hB0))
    | (go_at_call 82; (with_reducible refine (HK.out _ hb0).mono ?_); rintro e w1 ⟨rfl, hb1, hG1⟩; have Hb1 := Lib.hid hb1; have HG1 := Lib.hid hG1; clear hb1 hG1 r0 r1 r9))
  go_end0
  exact ⟨rfl, (hb0.mono (Nat.le_of_lt Hgg.out)).trans Hb1.out, HG1.out⟩

set_option maxRecDepth 100000 in
set_option maxHeartbeats 4000000 in
theorem gstep_drop (h : Frag) (w : World) (gg : Nat) (ov pv : Value) (out puts : List Val.St) (oes pes : List (List Value)) (hG : GatAt h w gg ov pv out puts oes pes) (hl : out.length + puts.length ≤ 1000000) (s : Val.St) (sc : List Value) (hs : StR h s sc) (hk : s.1 = 2) :
    Calls Tryd.prog 73 #[.pointer (some ⟨gg, 0, none⟩), .agg sc.toArray] w (GatPost h w gg (out ++ [s]) puts) := by
  have H0 := Lib.hid (fun (w2 : World) (g : Nat) (hB : Blk w2 g sc) => And.intro (hB.cell hs.c0) (And.intro (hB.cell hs.c1) (show w2.cell? ⟨g, 9, none⟩ = some _ from hB.cell hs.c9)))
  have HLs := Lib.hid hs.len
  have HS := Lib.hid hs
  have HG0 := Lib.hid hG
  have Hgg := Lib.hid hG.blk.lt
  have Hol := Lib.hid hG.ro.len
  have Hpl := Lib.hid hG.rp.len
  rw [hk] at H0
  clear hk
  clear hG hs
  obtain ⟨oa, oc, hov, hrow, hnc, hcm, hnil⟩ := own_slice HG0.out.oo
  subst hov
  clear hrow hnc hcm hnil
  go_enter Tryd.func73, Tryd.ntmps73
  go_wp2_with (first
    | (refine wpList_box_lay rfl 55 _ rfl _ rfl ?_; (intro w0 g3 hg3 hB0 hb0; obtain ⟨r0, r1, r9⟩ := H0.out w0 g3 hB0)))
  have HGw := Lib.hid (HG0.out.keep hb0)
  have HG := Lib.hid HGw.out.toRows2
  have HB : Hid (Blk w0 gg [.slice oa oes.length oc, pv]) := HGw.out.blk
  have HB3 := Lib.hid hB0
  have Hb0 := Lib.hid hb0
  have Hbd : Hid ((oes.length + 1) * 496 ≤ 140737488355328) := by show _ ≤ _; have := Hol.out; have := Hpl.out; omega
  have N3 : Hid (gg ≠ g3 ∧ (Value.slice oa oes.length oc).ownBlock ≠ some g3) := ⟨by have := Hgg.out; omega, lt_flat (w := w) HG0.out.toRows2 g3 hg3⟩
  have Hfin : Hid (∀ Fw g2 c3, Below gg w0 Fw → Rows2 h Fw gg (.slice (some ⟨g2, 0, none⟩) (oes.length + 1) c3) pv (out ++ [s]) puts (oes ++ [sc]) pes → Blk Fw gg [.slice (some ⟨g2, 0, none⟩) (oes.length + 1) c3, pv] → GatPost h w gg (out ++ [s]) puts (.returned (.tuple #[])) Fw) := fun Fw g2 c3 hb hr hB => ⟨rfl, (Hb0.out.mono (Nat.le_of_lt Hgg.out)).trans hb, _, _, _, _, hr, hB⟩
  clear hB0 hb0 r0 r1 r9 hg3 hl
  go_wp2_with fail
  have hP0 : Blk w0.drew g3 sc := HB3.out.drew
  have hP : w0.drew.cell? ⟨gg, 0, none⟩ = some (.slice oa oes.length oc) := HB.out.cell rfl
  refine wp_region_G 12 (fun w' => Blk w' g3 sc) (fun w' => w'.cell? ⟨gg, 0, none⟩ = some (.slice oa oes.length oc)) (by kernel_rfl) hP0 hP (fun _ => ?_)
  refine wpAnyG_take (i := 0) (v := .pointer (some ⟨gg, 0, none⟩)) rfl (by kernel_rfl) (fun _ _ _ h => h) (.inl ⟨by rfl, fun w hw => by go_simp⟩) (InvG.mk hP0 hP) ?_
  change wpAnyG _ _ _ _ _ _ _ _ #[_, _, _, _, _, _, _, _, _, _, _, _, _] ⟨#[_, _, _, _, _, _, _, _, _, _, _, _, _, _, _, _, _, _, _, _, _, _, _, _, _, _, _, _, _, _, _, _, _, _, _, _, _, _, _, _, _, _, _, _, _, _, _, _, _, _, _, _, _, _, _, _, _, _, _, _, _, _, _, _, _, _, _, _, _, _, _, _, _, _, _, _], _⟩ _
  refine wpAnyG_take (i := 1) (v := .pointer (some ⟨gg, 0, none⟩)) rfl (by kernel_rfl) (fun _ _ _ h => h) (.inl ⟨by rfl, fun w hw => by go_simp⟩) (InvG.mk hP0 hP) ?_
  change wpAnyG _ _ _ _ _ _ _ _ #[_, _, _, _, _, _, _, _, _, _, _, _, _] ⟨#[_, _, _, _, _, _, _, _, _, _, _, _, _, _, _, _, _, _, _, _, _, _, _, _, _, _, _, _, _, _, _, _, _, _, _, _, _, _, _, _, _, _, _, _, _, _, _, _, _, _, _, _, _, _, _, _, _, _, _, _, _, _, _, _, _, _, _, _, _, _, _, _, _, _, _, _], _⟩ _
  refine wpAnyG_take (i := 2) (v := .pointer (some ⟨gg, 0, none⟩)) rfl (by kernel_rfl) (fun _ _ _ h => h) (.inl ⟨by rfl, fun w hw => by go_simp⟩) (InvG.mk hP0 hP) ?_
  change wpAnyG _ _ _ _ _ _ _ _ #[_, _, _, _, _, _, _, _, _, _, _, _, _] ⟨#[_, _, _, _, _, _, _, _, _, _, _, _, _, _, _, _, _, _, _, _, _, _, _, _, _, _, _, _, _, _, _, _, _, _, _, _, _, _, _, _, _, _, _, _, _, _, _, _, _, _, _, _, _, _, _, _, _, _, _, _, _, _, _, _, _, _, _, _, _, _, _, _, _, _, _, _], _⟩ _
  refine wpAnyG_take (i := 3) (v := (.slice oa oes.length oc)) rfl (by kernel_rfl) (fun _ _ _ h => h) (.inl ⟨by rfl, fun w hw => by have hc := hw.2; clear hw; go_simp⟩) (InvG.mk hP0 hP) ?_
  change wpAnyG _ _ _ _ _ _ _ _ #[_, _, _, _, _, _, _, _, _, _, _, _, _] ⟨#[_, _, _, _, _, _, _, _, _, _, _, _, _, _, _, _, _, _, _, _, _, _, _, _, _, _, _, _, _, _, _, _, _, _, _, _, _, _, _, _, _, _, _, _, _, _, _, _, _, _, _, _, _, _, _, _, _, _, _, _, _, _, _, _, _, _, _, _, _, _, _, _, _, _, _, _], _⟩ _
  refine wpAnyG_take0 (i := 4) (v := .agg sc.toArray) rfl (by kernel_rfl) (fun _ _ _ h => h) (yieldsIf_load_mid (by rfl) 55 _ rfl g3 0 (by go_simp) sc _ (fun w h => h.whole) Tryd.underlying55 rfl (infoES.trans (congrArg some HLs.out.symm))) (InvG.mk hP0 hP) ?_
  change wpAnyG _ _ _ _ _ _ _ _ #[_, _, _, _, _, _, _, _, _, _, _, _, _] ⟨#[_, _, _, _, _, _, _, _, _, _, _, _, _, _, _, _, _, _, _, _, _, _, _, _, _, _, _, _, _, _, _, _, _, _, _, _, _, _, _, _, _, _, _, _, _, _, _, _, _, _, _, _, _, _, _, _, _, _, _, _, _, _, _, _, _, _, _, _, _, _, _, _, _, _, _, _], _⟩ _
  refine wpAnyG_take0 (i := 5) (v := .int .i64 (oes.length : Nat)) rfl (by kernel_rfl) (fun _ _ _ h => h) (.inl ⟨by rfl, fun w hw => by go_simp⟩) (InvG.mk hP0 hP) ?_
  change wpAnyG _ _ _ _ _ _ _ _ #[_, _, _, _, _, _, _, _, _, _, _, _, _] ⟨#[_, _, _, _, _, _, _, _, _, _, _, _, _, _, _, _, _, _, _, _, _, _, _, _, _, _, _, _, _, _, _, _, _, _, _, _, _, _, _, _, _, _, _, _, _, _, _, _, _, _, _, _, _, _, _, _, _, _, _, _, _, _, _, _, _, _, _, _, _, _, _, _, _, _, _, _], _⟩ _
  refine wpAnyG_ready (rs := [6]) (by kernel_rfl) (by simp) ?_
  refine AllReadyG.plain rfl rfl (fun K hK => ?_) AllReadyG.nil
  refine wp_buildSlice1 29 55 _ rfl zES (.agg zES.toArray) (by rfl) Tryd.underlying29 infoES2 (by decide) (by decide) rfl ?_
  have hba : Below w0.heap.size w0 (w0.drew.alloc (.cells zES.toArray 55)) := ((Below.refl _ _).drew).alloc (Nat.le_refl _) _
  have hP0a : Blk (w0.drew.alloc (.cells zES.toArray 55)) g3 sc := HB3.out.below hba HB3.out.lt
  have hBa : Blk (w0.drew.alloc (.cells zES.toArray 55)) gg [.slice oa oes.length oc, pv] := HB.out.below hba HB.out.lt
  refine hK.out _ _ (InvG.mk hP0a (hBa.cell rfl)) (fun _ => ?_)
  clear hK
  change wpAnyG _ _ _ _ _ _ _ _ #[_, _, _, _, _, _, _, _, _, _, _, _, _] ⟨#[_, _, _, _, _, _, _, _, _, _, _, _, _, _, _, _, _, _, _, _, _, _, _, _, _, _, _, _, _, _, _, _, _, _, _, _, _, _, _, _, _, _, _, _, _, _, _, _, _, _, _, _, _, _, _, _, _, _, _, _, _, _, _, _, _, _, _, _, _, _, _, _, _, _, _, _], _⟩ _
  refine wpAnyG_ready (rs := [7]) (by kernel_rfl) (by simp) ?_
  refine AllReadyG.plain rfl rfl (fun K hK => ?_) AllReadyG.nil
  obtain ⟨i0, hi0, hi1, hi2, hi3⟩ := info_parts T_ES.info
  have HGd := Lib.hid (HG.out.keep ((Below.refl w0.heap.size w0).drew))
  refine wp_append_lies _ _ _ 29 rfl (gg + 1) 55 i0 (.agg zES.toArray) 30 496 Tryd.underlying29 hi0 hi1 hi2 hi3 rfl (by decide) (.slice oa oes.length oc) oes.length oes.flatten (by go_simp) (HGd.out.oo.alloc _) ⟨w0.drew.heap.size, 0, none⟩ 1 1 zES (by go_simp) rfl (World.news_of_block (heap_alloc_new w0.drew _)) zES_one (by decide) (show oes.length + 1 ≤ maxLen by have := Hbd.out; unfold maxLen; omega) Hbd.out (Nat.le_trans (Nat.succ_le_of_lt HB.out.lt) (by simp)) (w0.heap.size + 1) (by simp) ?_
  intro g2 c3 w2 ho2 hg2 hat hl2
  clear hi0 hi1 hi2 hi3
  have hgr2 : w0.grownBy w2 (Value.slice oa oes.length oc).ownBlock := grown_of_alloc hg2
  have hB2 := hBa.grown hg2 (own_ne_base HGd.out.oo)
  have hxl : oes.flatten.length = oes.length * 30 := HGd.out.ro.flat_len
  have hP02 : Blk w2 g3 sc := HB3.out.grown hgr2 (fun e => N3.out.2 e.symm)
  refine hK.out _ _ (InvG.mk hP02 (hB2.cell rfl)) (fun _ => ?_)
  clear hK
  change wpAnyG _ _ _ _ _ _ _ _ #[_, _, _, _, _, _, _, _, _, _, _, _, _] ⟨#[_, _, _, _, _, _, _, _, _, _, _, _, _, _, _, _, _, _, _, _, _, _, _, _, _, _, _, _, _, _, _, _, _, _, _, _, _, _, _, _, _, _, _, _, _, _, _, _, _, _, _, _, _, _, _, _, _, _, _, _, _, _, _, _, _, _, _, _, _, _, _, _, _, _, _, _], _⟩ _
  have hix := own_idx (P := Tryd.prog) (t := 29) (g := g2) (cap := c3) (show oes.length < oes.length + 1 by omega) Tryd.underlying29 sizeES
  have hq2 : w2.cell? ⟨gg, 0, none⟩ = some (.slice oa oes.length oc) := hB2.cell rfl
  refine wpAnyG_take0 (i := 8) (v := .pointer (some ⟨g2, oes.length * 30, none⟩)) rfl (by kernel_rfl) (fun _ _ _ h => h) (.inl ⟨by rfl, fun w hw => by have hi := hix w; clear hix; go_simp⟩) (InvG.mk hP02 hq2) ?_
  change wpAnyG _ _ _ _ _ _ _ _ #[_, _, _, _, _, _, _, _, _, _, _, _, _] ⟨#[_, _, _, _, _, _, _, _, _, _, _, _, _, _, _, _, _, _, _, _, _, _, _, _, _, _, _, _, _, _, _, _, _, _, _, _, _, _, _, _, _, _, _, _, _, _, _, _, _, _, _, _, _, _, _, _, _, _, _, _, _, _, _, _, _, _, _, _, _, _, _, _, _, _, _, _], _⟩ _
  refine wpAnyG_take (i := 10) (v := .pointer (some ⟨gg, 0, none⟩)) rfl (by kernel_rfl) (fun _ _ _ h => h) (.inl ⟨by rfl, fun w hw => by go_simp⟩) (InvG.mk hP02 hq2) ?_
  change wpAnyG _ _ _ _ _ _ _ _ #[_, _, _, _, _, _, _, _, _, _, _, _, _] ⟨#[_, _, _, _, _, _, _, _, _, _, _, _, _, _, _, _, _, _, _, _, _, _, _, _, _, _, _, _, _, _, _, _, _, _, _, _, _, _, _, _, _, _, _, _, _, _, _, _, _, _, _, _, _, _, _, _, _, _, _, _, _, _, _, _, _, _, _, _, _, _, _, _, _, _, _, _], _⟩ _
  refine wpAnyG_take (i := 11) (v := .pointer (some ⟨gg, 0, none⟩)) rfl (by kernel_rfl) (fun _ _ _ h => h) (.inl ⟨by rfl, fun w hw => by go_simp⟩) (InvG.mk hP02 hq2) ?_
  change wpAnyG _ _ _ _ _ _ _ _ #[_, _, _, _, _, _, _, _, _, _, _, _, _] ⟨#[_, _, _, _, _, _, _, _, _, _, _, _, _, _, _, _, _, _, _, _, _, _, _, _, _, _, _, _, _, _, _, _, _, _, _, _, _, _, _, _, _, _, _, _, _, _, _, _, _, _, _, _, _, _, _, _, _, _, _, _, _, _, _, _, _, _, _, _, _, _, _, _, _, _, _, _], _⟩ _
  have hpt : patch (oes.flatten ++ zES) (oes.length * 30) sc = oes.flatten ++ sc := by have e := patch_at (p := oes.flatten) (q := zES) (r := []) (vs := sc) hxl (by rw [HLs.out]; rfl); simpa using e
  have hg2b : gg + 1 ≤ g2 := (ho2.lt g2 rfl).1
  have hne1 : some gg ≠ some g2 := by intro e; cases e; omega
  have hne2 : (Value.slice (some ⟨g2, 0, none⟩) (oes.length + 1) c3).ownBlock ≠ some gg := fun e => hne1 e.symm
  have hne3 : some g3 ≠ some g2 := fun e => by
    have e := Option.some.inj e
    subst e
    rcases hat with h | h
    · exact N3.out.2 h
    · have := HB3.out.lt; omega
  have HPush := Lib.hid (fun (wA Fw : World) (X1 X2 : Option Nat) (hX : (X1 = some g2 ∧ X2 = some gg) ∨ (X1 = some gg ∧ X2 = some g2)) (h1 : w2.grownBy wA X1) (h2 : wA.grownBy Fw X2) (ho : Fw.ownsRow (gg + 1) 55 30 (.slice (some ⟨g2, 0, none⟩) (oes.length + 1) c3) (oes.length + 1) (oes.flatten ++ sc)) => HG.out.push HS.out HB.out.lt hgr2 (hat.imp id (fun e => by rw [e]; exact Nat.le_succ _)) hg2b hX h1 h2 ho)
  refine wpAnyG_ready (rs := [9, 12]) (by kernel_rfl) (by simp) ?_
  refine AllReadyG.plain rfl rfl (fun K hK => ?_) (AllReadyG.plain rfl rfl (fun K hK => ?_) AllReadyG.nil)
  · refine wp_store_own (v := .agg sc.toArray) (vs := sc) (o := oes.length * 30) (g := g2) 55 _ _ rfl (by go_simp) (by go_simp) rfl ho2 (infoES.trans (congrArg some HLs.out.symm)) (by rw [List.length_append, hxl, HLs.out]; exact Nat.le_refl _) HS.out.one ?_
    intro w3 ho3 hg3 hs3
    rw [hpt] at ho3
    have hB3 := hB2.grown hg3 hne1
    have hP03 : Blk w3 g3 sc := hP02.grown hg3 hne3
    refine hK.out _ _ (InvG.mk hP03 (hB3.cell rfl)) (fun _ => ?_)
    clear hK
    change wpAnyG _ _ _ _ _ _ _ _ #[_, _, _, _, _, _, _, _, _, _, _, _, _] ⟨#[_, _, _, _, _, _, _, _, _, _, _, _, _, _, _, _, _, _, _, _, _, _, _, _, _, _, _, _, _, _, _, _, _, _, _, _, _, _, _, _, _, _, _, _, _, _, _, _, _, _, _, _, _, _, _, _, _, _, _, _, _, _, _, _, _, _, _, _, _, _, _, _, _, _, _, _], _⟩ _
    refine wpAnyG_ready (rs := [12]) (by kernel_rfl) (by simp) ?_
    refine AllReadyG.plain rfl rfl (fun K hK => ?_) AllReadyG.nil
    refine wp_store_lay 29 _ _ rfl gg 0 (.slice (some ⟨g2, 0, none⟩) (oes.length + 1) c3) [(.slice (some ⟨g2, 0, none⟩) (oes.length + 1) c3)] [.slice oa oes.length oc, pv] (by go_simp) (by go_simp) rfl hB3 infoSs (show 0 + 1 ≤ 2 by decide) (by simp [Value.oneCell']) ?_
    intro w4 hB4 hg4 hs4
    have HBE : Hid (Blk w4 gg [.slice (some ⟨g2, 0, none⟩) (oes.length + 1) c3, pv]) := hB4
    have HE := Lib.hid (HPush.out w3 w4 _ _ (.inl ⟨rfl, rfl⟩) hg3 hg4 (ho3.kept hg4 (.inr hne2)))
    have hP04 : Blk w4 g3 sc := hP03.grown hg4 (fun e => N3.out.1 (Option.some.inj e).symm)
    refine hK.out _ _ (InvG.past hP04 (by kernel_rfl)) (fun _ => ?_)
    clear hK
    change wpAnyG _ _ _ _ _ _ _ _ #[_, _, _, _, _, _, _, _, _, _, _, _, _] ⟨#[_, _, _, _, _, _, _, _, _, _, _, _, _, _, _, _, _, _, _, _, _, _, _, _, _, _, _, _, _, _, _, _, _, _, _, _, _, _, _, _, _, _, _, _, _, _, _, _, _, _, _, _, _, _, _, _, _, _, _, _, _, _, _, _, _, _, _, _, _, _, _, _, _, _, _, _], _⟩ _
    refine wpAnyG_done (by kernel_rfl) ?_ _
    clear hP0 hP hba hP0a hBa ho2 hg2 hat hl2 hgr2 hB2 hxl hP02 hix hq2 hpt hg2b hne1 hne2 ho3 hg3 hs3 hB3 hP03 hB4 hg4 hs4 hP04
    go_wp2_with fail
    go_end0
    exact Hfin.out _ _ _ HE.out.1 HE.out.2 HBE.out
  · refine wp_store_lay 29 _ _ rfl gg 0 (.slice (some ⟨g2, 0, none⟩) (oes.length + 1) c3) [(.slice (some ⟨g2, 0, none⟩) (oes.length + 1) c3)] [.slice oa oes.length oc, pv] (by go_simp) (by go_simp) rfl hB2 infoSs (show 0 + 1 ≤ 2 by decide) (by simp [Value.oneCell']) ?_
    intro w3 hB3 hg3 hs3
    have ho3 := ho2.kept hg3 (.inr hne2)
    have hP03 : Blk w3 g3 sc := hP02.grown hg3 (fun e => N3.out.1 (Option.some.inj e).symm)
    refine hK.out _ _ (InvG.past hP03 (by kernel_rfl)) (fun _ => ?_)
    clear hK
    change wpAnyG _ _ _ _ _ _ _ _ #[_, _, _, _, _, _, _, _, _, _, _, _, _] ⟨#[_, _, _, _, _, _, _, _, _, _, _, _, _, _, _, _, _, _, _, _, _, _, _, _, _, _, _, _, _, _, _, _, _, _, _, _, _, _, _, _, _, _, _, _, _, _, _, _, _, _, _, _, _, _, _, _, _, _, _, _, _, _, _, _, _, _, _, _, _, _, _, _, _, _, _, _], _⟩ _
    refine wpAnyG_ready (rs := [9]) (by kernel_rfl) (by simp) ?_
    refine AllReadyG.plain rfl rfl (fun K hK => ?_) AllReadyG.nil
    refine wp_store_own (v := .agg sc.toArray) (vs := sc) (o := oes.length * 30) (g := g2) 55 _ _ rfl (by go_simp) (by go_simp) rfl ho3 (infoES.trans (congrArg some HLs.out.symm)) (by rw [List.length_append, hxl, HLs.out]; exact Nat.le_refl _) HS.out.one ?_
    intro w4 ho4 hg4 hs4
    rw [hpt] at ho4
    have HBE : Hid (Blk w4 gg [.slice (some ⟨g2, 0, none⟩) (oes.length + 1) c3, pv]) := hB3.grown hg4 hne1
    have HE := Lib.hid (HPush.out w3 w4 _ _ (.inr ⟨rfl, rfl⟩) hg3 hg4 ho4)
    have hP04 : Blk w4 g3 sc := hP03.grown hg4 hne3
    refine hK.out _ _ (InvG.past hP04 (by kernel_rfl)) (fun _ => ?_)
    clear hK
    change wpAnyG _ _ _ _ _ _ _ _ #[_, _, _, _, _, _, _, _, _, _, _, _, _] ⟨#[_, _, _, _, _, _, _, _, _, _, _, _, _, _, _, _, _, _, _, _, _, _, _, _, _, _, _, _, _, _, _, _, _, _, _, _, _, _, _, _, _, _, _, _, _, _, _, _, _, _, _, _, _, _, _, _, _, _, _, _, _, _, _, _, _, _, _, _, _, _, _, _, _, _, _, _], _⟩ _
    refine wpAnyG_done (by kernel_rfl) ?_ _
    clear hP0 hP hba hP0a hBa ho2 hg2 hat hl2 hgr2 hB2 hxl hP02 hix hq2 hpt hg2b hne1 hne2 ho3 hg3 hs3 hB3 hP03 ho4 hg4 hs4 hP04
    go_wp2_with fail
    go_end0
    exact Hfin.out _ _ _ HE.out.1 HE.out.2 HBE.out

set_option maxRecDepth 100000 in
set_option maxHeartbeats 4000000 in
theorem gstep_put (h : Frag) (w : World) (gg : Nat) (ov pv : Value) (out puts : List Val.St) (oes pes : List (List Value)) (hG : GatAt h w gg ov pv out puts oes pes) (hl : out.length + puts.length ≤ 1000000) (s : Val.St) (sc : List Value) (hs : StR h s sc) (hk : s.1 = 3) :
    Calls Tryd.prog 73 #[.pointer (some ⟨gg, 0, none⟩), .agg sc.toArray] w (GatPost h w gg out (puts ++ [s])) := by
  have H0 := Lib.hid (fun (w2 : World) (g : Nat) (hB : Blk w2 g sc) => And.intro (hB.cell hs.c0) (And.intro (hB.cell hs.c1) (show w2.cell? ⟨g, 9, none⟩ = some _ from hB.cell hs.c9)))
  have HLs := Lib.hid hs.len
  have HS := Lib.hid hs
  have HG0 := Lib.hid hG
  have Hgg := Lib.hid hG.blk.lt
  have Hol := Lib.hid hG.ro.len
  have Hpl := Lib.hid hG.rp.len
  rw [hk] at H0
  clear hk
  clear hG hs
  obtain ⟨oa, oc, hov, hrow, hnc, hcm, hnil⟩ := own_slice HG0.out.po
  subst hov
  clear hrow hnc hcm hnil
  go_enter Tryd.func73, Tryd.ntmps73
  go_wp2_with (first
    | (refine wpList_box_lay rfl 55 _ rfl _ rfl ?_; (intro w0 g3 hg3 hB0 hb0; obtain ⟨r0, r1, r9⟩ := H0.out w0 g3 hB0)))
  have HGw := Lib.hid (HG0.out.keep hb0)
  have HG := Lib.hid HGw.out.toRows2.swap
  have HB : Hid (Blk w0 gg [ov, .slice oa pes.length oc]) := HGw.out.blk
  have HB3 := Lib.hid hB0
  have Hb0 := Lib.hid hb0
  have Hbd : Hid ((pes.length + 1) * 496 ≤ 140737488355328) := by show _ ≤ _; have := Hol.out; have := Hpl.out; omega
  have N3 : Hid (gg ≠ g3 ∧ (Value.slice oa pes.length oc).ownBlock ≠ some g3) := ⟨by have := Hgg.out; omega, lt_flat (w := w) HG0.out.toRows2.swap g3 hg3⟩
  have Hfin : Hid (∀ Fw g2 c3, Below gg w0 Fw → Rows2 h Fw gg (.slice (some ⟨g2, 0, none⟩) (pes.length + 1) c3) ov (puts ++ [s]) out (pes ++ [sc]) oes → Blk Fw gg [ov, .slice (some ⟨g2, 0, none⟩) (pes.length + 1) c3] → GatPost h w gg out (puts ++ [s]) (.returned (.tuple #[])) Fw) := fun Fw g2 c3 hb hr hB => ⟨rfl, (Hb0.out.mono (Nat.le_of_lt Hgg.out)).trans hb, _, _, _, _, hr.swap, hB⟩
  clear hB0 hb0 r0 r1 r9 hg3 hl
  go_wp2_with fail
  have hP0 : Blk w0.drew g3 sc := HB3.out.drew
  have hP : w0.drew.cell? ⟨gg, 1, none⟩ = some (.slice oa pes.length oc) := HB.out.cell rfl
  refine wp_region_G 12 (fun w' => Blk w' g3 sc) (fun w' => w'.cell? ⟨gg, 1, none⟩ = some (.slice oa pes.length oc)) (by kernel_rfl) hP0 hP (fun _ => ?_)
  refine wpAnyG_take (i := 0) (v := .pointer (some ⟨gg, 0, none⟩)) rfl (by kernel_rfl) (fun _ _ _ h => h) (.inl ⟨by rfl, fun w hw => by go_simp⟩) (InvG.mk hP0 hP) ?_
  change wpAnyG _ _ _ _ _ _ _ _ #[_, _, _, _, _, _, _, _, _, _, _, _, _] ⟨#[_, _, _, _, _, _, _, _, _, _, _, _, _, _, _, _, _, _, _, _, _, _, _, _, _, _, _, _, _, _, _, _, _, _, _, _, _, _, _, _, _, _, _, _, _, _, _, _, _, _, _, _, _, _, _, _, _, _, _, _, _, _, _, _, _, _, _, _, _, _, _, _, _, _, _, _], _⟩ _
  refine wpAnyG_take (i := 1) (v := .pointer (some ⟨gg, 0, none⟩)) rfl (by kernel_rfl) (fun _ _ _ h => h) (.inl ⟨by rfl, fun w hw => by go_simp⟩) (InvG.mk hP0 hP) ?_
  change wpAnyG _ _ _ _ _ _ _ _ #[_, _, _, _, _, _, _, _, _, _, _, _, _] ⟨#[_, _, _, _, _, _, _, _, _, _, _, _, _, _, _, _, _, _, _, _, _, _, _, _, _, _, _, _, _, _, _, _, _, _, _, _, _, _, _, _, _, _, _, _, _, _, _, _, _, _, _, _, _, _, _, _, _, _, _, _, _, _, _, _, _, _, _, _, _, _, _, _, _, _, _, _], _⟩ _
  refine wpAnyG_take (i := 2) (v := .pointer (some ⟨gg, 1, none⟩)) rfl (by kernel_rfl) (fun _ _ _ h => h) (.inl ⟨by rfl, fun w hw => by go_simp⟩) (InvG.mk hP0 hP) ?_
  change wpAnyG _ _ _ _ _ _ _ _ #[_, _, _, _, _, _, _, _, _, _, _, _, _] ⟨#[_, _, _, _, _, _, _, _, _, _, _, _, _, _, _, _, _, _, _, _, _, _, _, _, _, _, _, _, _, _, _, _, _, _, _, _, _, _, _, _, _, _, _, _, _, _, _, _, _, _, _, _, _, _, _, _, _, _, _, _, _, _, _, _, _, _, _, _, _, _, _, _, _, _, _, _], _⟩ _
  refine wpAnyG_take (i := 3) (v := (.slice oa pes.length oc)) rfl (by kernel_rfl) (fun _ _ _ h => h) (.inl ⟨by rfl, fun w hw => by have hc := hw.2; clear hw; go_simp⟩) (InvG.mk hP0 hP) ?_
  change wpAnyG _ _ _ _ _ _ _ _ #[_, _, _, _, _, _, _, _, _, _, _, _, _] ⟨#[_, _, _, _, _, _, _, _, _, _, _, _, _, _, _, _, _, _, _, _, _, _, _, _, _, _, _, _, _, _, _, _, _, _, _, _, _, _, _, _, _, _, _, _, _, _, _, _, _, _, _, _, _, _, _, _, _, _, _, _, _, _, _, _, _, _, _, _, _, _, _, _, _, _, _, _], _⟩ _
  refine wpAnyG_take0 (i := 4) (v := .agg sc.toArray) rfl (by kernel_rfl) (fun _ _ _ h => h) (yieldsIf_load_mid (by rfl) 55 _ rfl g3 0 (by go_simp) sc _ (fun w h => h.whole) Tryd.underlying55 rfl (infoES.trans (congrArg some HLs.out.symm))) (InvG.mk hP0 hP) ?_
  change wpAnyG _ _ _ _ _ _ _ _ #[_, _, _, _, _, _, _, _, _, _, _, _, _] ⟨#[_, _, _, _, _, _, _, _, _, _, _, _, _, _, _, _, _, _, _, _, _, _, _, _, _, _, _, _, _, _, _, _, _, _, _, _, _, _, _, _, _, _, _, _, _, _, _, _, _, _, _, _, _, _, _, _, _, _, _, _, _, _, _, _, _, _, _, _, _, _, _, _, _, _, _, _], _⟩ _
  refine wpAnyG_take0 (i := 5) (v := .int .i64 (pes.length : Nat)) rfl (by kernel_rfl) (fun _ _ _ h => h) (.inl ⟨by rfl, fun w hw => by go_simp⟩) (InvG.mk hP0 hP) ?_
  change wpAnyG _ _ _ _ _ _ _ _ #[_, _, _, _, _, _, _, _, _, _, _, _, _] ⟨#[_, _, _, _, _, _, _, _, _, _, _, _, _, _, _, _, _, _, _, _, _, _, _, _, _, _, _, _, _, _, _, _, _, _, _, _, _, _, _, _, _, _, _, _, _, _, _, _, _, _, _, _, _, _, _, _, _, _, _, _, _, _, _, _, _, _, _, _, _, _, _, _, _, _, _, _], _⟩ _
  refine wpAnyG_ready (rs := [6]) (by kernel_rfl) (by simp) ?_
  refine AllReadyG.plain rfl rfl (fun K hK => ?_) AllReadyG.nil
  refine wp_buildSlice1 29 55 _ rfl zES (.agg zES.toArray) (by rfl) Tryd.underlying29 infoES2 (by decide) (by decide) rfl ?_
  have hba : Below w0.heap.size w0 (w0.drew.alloc (.cells zES.toArray 55)) := ((Below.refl _ _).drew).alloc (Nat.le_refl _) _
  have hP0a : Blk (w0.drew.alloc (.cells zES.toArray 55)) g3 sc := HB3.out.below hba HB3.out.lt
  have hBa : Blk (w0.drew.alloc (.cells zES.toArray 55)) gg [ov, .slice oa pes.length oc] := HB.out.below hba HB.out.lt
  refine hK.out _ _ (InvG.mk hP0a (hBa.cell rfl)) (fun _ => ?_)
  clear hK
  change wpAnyG _ _ _ _ _ _ _ _ #[_, _, _, _, _, _, _, _, _, _, _, _, _] ⟨#[_, _, _, _, _, _, _, _, _, _, _, _, _, _, _, _, _, _, _, _, _, _, _, _, _, _, _, _, _, _, _, _, _, _, _, _, _, _, _, _, _, _, _, _, _, _, _, _, _, _, _, _, _, _, _, _, _, _, _, _, _, _, _, _, _, _, _, _, _, _, _, _, _, _, _, _], _⟩ _
  refine wpAnyG_ready (rs := [7]) (by kernel_rfl) (by simp) ?_
  refine AllReadyG.plain rfl rfl (fun K hK => ?_) AllReadyG.nil
  obtain ⟨i0, hi0, hi1, hi2, hi3⟩ := info_parts T_ES.info
  have HGd := Lib.hid (HG.out.keep ((Below.refl w0.heap.size w0).drew))
  refine wp_append_lies _ _ _ 29 rfl (gg + 1) 55 i0 (.agg zES.toArray) 30 496 Tryd.underlying29 hi0 hi1 hi2 hi3 rfl (by decide) (.slice oa pes.length oc) pes.length pes.flatten (by go_simp) (HGd.out.oo.alloc _) ⟨w0.drew.heap.size, 0, none⟩ 1 1 zES (by go_simp) rfl (World.news_of_block (heap_alloc_new w0.drew _)) zES_one (by decide) (show pes.length + 1 ≤ maxLen by have := Hbd.out; unfold maxLen; omega) Hbd.out (Nat.le_trans (Nat.succ_le_of_lt HB.out.lt) (by simp)) (w0.heap.size + 1) (by simp) ?_
  intro g2 c3 w2 ho2 hg2 hat hl2
  clear hi0 hi1 hi2 hi3
  have hgr2 : w0.grownBy w2 (Value.slice oa pes.length oc).ownBlock := grown_of_alloc hg2
  have hB2 := hBa.grown hg2 (own_ne_base HGd.out.oo)
  have hxl : pes.flatten.length = pes.length * 30 := HGd.out.ro.flat_len
  have hP02 : Blk w2 g3 sc := HB3.out.grown hgr2 (fun e => N3.out.2 e.symm)
  refine hK.out _ _ (InvG.mk hP02 (hB2.cell rfl)) (fun _ => ?_)
  clear hK
  change wpAnyG _ _ _ _ _ _ _ _ #[_, _, _, _, _, _, _, _, _, _, _, _, _] ⟨#[_, _, _, _, _, _, _, _, _, _, _, _, _, _, _, _, _, _, _, _, _, _, _, _, _, _, _, _, _, _, _, _, _, _, _, _, _, _, _, _, _, _, _, _, _, _, _, _, _, _, _, _, _, _, _, _, _, _, _, _, _, _, _, _, _, _, _, _, _, _, _, _, _, _, _, _], _⟩ _
  have hix := own_idx (P := Tryd.prog) (t := 29) (g := g2) (cap := c3) (show pes.length < pes.length + 1 by omega) Tryd.underlying29 sizeES
  have hq2 : w2.cell? ⟨gg, 1, none⟩ = some (.slice oa pes.length oc) := hB2.cell rfl
  refine wpAnyG_take0 (i := 8) (v := .pointer (some ⟨g2, pes.length * 30, none⟩)) rfl (by kernel_rfl) (fun _ _ _ h => h) (.inl ⟨by rfl, fun w hw => by have hi := hix w; clear hix; go_simp⟩) (InvG.mk hP02 hq2) ?_
  change wpAnyG _ _ _ _ _ _ _ _ #[_, _, _, _, _, _, _, _, _, _, _, _, _] ⟨#[_, _, _, _, _, _, _, _, _, _, _, _, _, _, _, _, _, _, _, _, _, _, _, _, _, _, _, _, _, _, _, _, _, _, _, _, _, _, _, _, _, _, _, _, _, _, _, _, _, _, _, _, _, _, _, _, _, _, _, _, _, _, _, _, _, _, _, _, _, _, _, _, _, _, _, _], _⟩ _
  refine wpAnyG_take (i := 10) (v := .pointer (some ⟨gg, 0, none⟩)) rfl (by kernel_rfl) (fun _ _ _ h => h) (.inl ⟨by rfl, fun w hw => by go_simp⟩) (InvG.mk hP02 hq2) ?_
  change wpAnyG _ _ _ _ _ _ _ _ #[_, _, _, _, _, _, _, _, _, _, _, _, _] ⟨#[_, _, _, _, _, _, _, _, _, _, _, _, _, _, _, _, _, _, _, _, _, _, _, _, _, _, _, _, _, _, _, _, _, _, _, _, _, _, _, _, _, _, _, _, _, _, _, _, _, _, _, _, _, _, _, _, _, _, _, _, _, _, _, _, _, _, _, _, _, _, _, _, _, _, _, _], _⟩ _
  refine wpAnyG_take (i := 11) (v := .pointer (some ⟨gg, 1, none⟩)) rfl (by kernel_rfl) (fun _ _ _ h => h) (.inl ⟨by rfl, fun w hw => by go_simp⟩) (InvG.mk hP02 hq2) ?_
  change wpAnyG _ _ _ _ _ _ _ _ #[_, _, _, _, _, _, _, _, _, _, _, _, _] ⟨#[_, _, _, _, _, _, _, _, _, _, _, _, _, _, _, _, _, _, _, _, _, _, _, _, _, _, _, _, _, _, _, _, _, _, _, _, _, _, _, _, _, _, _, _, _, _, _, _, _, _, _, _, _, _, _, _, _, _, _, _, _, _, _, _, _, _, _, _, _, _, _, _, _, _, _, _], _⟩ _
  have hpt : patch (pes.flatten ++ zES) (pes.length * 30) sc = pes.flatten ++ sc := by have e := patch_at (p := pes.flatten) (q := zES) (r := []) (vs := sc) hxl (by rw [HLs.out]; rfl); simpa using e
  have hg2b : gg + 1 ≤ g2 := (ho2.lt g2 rfl).1
  have hne1 : some gg ≠ some g2 := by intro e; cases e; omega
  have hne2 : (Value.slice (some ⟨g2, 0, none⟩) (pes.length + 1) c3).ownBlock ≠ some gg := fun e => hne1 e.symm
  have hne3 : some g3 ≠ some g2 := fun e => by
    have e := Option.some.inj e
    subst e
    rcases hat with h | h
    · exact N3.out.2 h
    · have := HB3.out.lt; omega
  have HPush := Lib.hid (fun (wA Fw : World) (X1 X2 : Option Nat) (hX : (X1 = some g2 ∧ X2 = some gg) ∨ (X1 = some gg ∧ X2 = some g2)) (h1 : w2.grownBy wA X1) (h2 : wA.grownBy Fw X2) (ho : Fw.ownsRow (gg + 1) 55 30 (.slice (some ⟨g2, 0, none⟩) (pes.length + 1) c3) (pes.length + 1) (pes.flatten ++ sc)) => HG.out.push HS.out HB.out.lt hgr2 (hat.imp id (fun e => by rw [e]; exact Nat.le_succ _)) hg2b hX h1 h2 ho)
  refine wpAnyG_ready (rs := [9, 12]) (by kernel_rfl) (by simp) ?_
  refine AllReadyG.plain rfl rfl (fun K hK => ?_) (AllReadyG.plain rfl rfl (fun K hK => ?_) AllReadyG.nil)
  · refine wp_store_own (v := .agg sc.toArray) (vs := sc) (o := pes.length * 30) (g := g2) 55 _ _ rfl (by go_simp) (by go_simp) rfl ho2 (infoES.trans (congrArg some HLs.out.symm)) (by rw [List.length_append, hxl, HLs.out]; exact Nat.le_refl _) HS.out.one ?_
    intro w3 ho3 hg3 hs3
    rw [hpt] at ho3
    have hB3 := hB2.grown hg3 hne1
    have hP03 : Blk w3 g3 sc := hP02.grown hg3 hne3
    refine hK.out _ _ (InvG.mk hP03 (hB3.cell rfl)) (fun _ => ?_)
    clear hK
    change wpAnyG _ _ _ _ _ _ _ _ #[_, _, _, _, _, _, _, _, _, _, _, _, _] ⟨#[_, _, _, _, _, _, _, _, _, _, _, _, _, _, _, _, _, _, _, _, _, _, _, _, _, _, _, _, _, _, _, _, _, _, _, _, _, _, _, _, _, _, _, _, _, _, _, _, _, _, _, _, _, _, _, _, _, _, _, _, _, _, _, _, _, _, _, _, _, _, _, _, _, _, _, _], _⟩ _
    refine wpAnyG_ready (rs := [12]) (by kernel_rfl) (by simp) ?_
    refine AllReadyG.plain rfl rfl (fun K hK => ?_) AllReadyG.nil
    refine wp_store_lay 29 _ _ rfl gg 1 (.slice (some ⟨g2, 0, none⟩) (pes.length + 1) c3) [(.slice (some ⟨g2, 0, none⟩) (pes.length + 1) c3)] [ov, .slice oa pes.length oc] (by go_simp) (by go_simp) rfl hB3 infoSs (show 1 + 1 ≤ 2 by decide) (by simp [Value.oneCell']) ?_
    intro w4 hB4 hg4 hs4
    have HBE : Hid (Blk w4 gg [ov, .slice (some ⟨g2, 0, none⟩) (pes.length + 1) c3]) := hB4
    have HE := Lib.hid (HPush.out w3 w4 _ _ (.inl ⟨rfl, rfl⟩) hg3 hg4 (ho3.kept hg4 (.inr hne2)))
    have hP04 : Blk w4 g3 sc := hP03.grown hg4 (fun e => N3.out.1 (Option.some.inj e).symm)
    refine hK.out _ _ (InvG.past hP04 (by kernel_rfl)) (fun _ => ?_)
    clear hK
    change wpAnyG _ _ _ _ _ _ _ _ #[_, _, _, _, _, _, _, _, _, _, _, _, _] ⟨#[_, _, _, _, _, _, _, _, _, _, _, _, _, _, _, _, _, _, _, _, _, _, _, _, _, _, _, _, _, _, _, _, _, _, _, _, _, _, _, _, _, _, _, _, _, _, _, _, _, _, _, _, _, _, _, _, _, _, _, _, _, _, _, _, _, _, _, _, _, _, _, _, _, _, _, _], _⟩ _
    refine wpAnyG_done (by kernel_rfl) ?_ _
    clear hP0 hP hba hP0a hBa ho2 hg2 hat hl2 hgr2 hB2 hxl hP02 hix hq2 hpt hg2b hne1 hne2 ho3 hg3 hs3 hB3 hP03 hB4 hg4 hs4 hP04
    go_wp2_with fail
    go_end0
    exact Hfin.out _ _ _ HE.out.1 HE.out.2 HBE.out
  · refine wp_store_lay 29 _ _ rfl gg 1 (.slice (some ⟨g2, 0, none⟩) (pes.length + 1) c3) [(.slice (some ⟨g2, 0, none⟩) (pes.length + 1) c3)] [ov, .slice oa pes.length oc] (by go_simp) (by go_simp) rfl hB2 infoSs (show 1 + 1 ≤ 2 by decide) (by simp [Value.oneCell']) ?_
    intro w3 hB3 hg3 hs3
    have ho3 := ho2.kept hg3 (.inr hne2)
    have hP03 : Blk w3 g3 sc := hP02.grown hg3 (fun e => N3.out.1 (Option.some.inj e).symm)
    refine hK.out _ _ (InvG.past hP03 (by kernel_rfl)) (fun _ => ?_)
    clear hK
    change wpAnyG _ _ _ _ _ _ _ _ #[_, _, _, _, _, _, _, _, _, _, _, _, _] ⟨#[_, _, _, _, _, _, _, _, _, _, _, _, _, _, _, _, _, _, _, _, _, _, _, _, _, _, _, _, _, _, _, _, _, _, _, _, _, _, _, _, _, _, _, _, _, _, _, _, _, _, _, _, _, _, _, _, _, _, _, _, _, _, _, _, _, _, _, _, _, _, _, _, _, _, _, _], _⟩ _
    refine wpAnyG_ready (rs := [9]) (by kernel_rfl) (by simp) ?_
    refine AllReadyG.plain rfl rfl (fun K hK => ?_) AllReadyG.nil
    refine wp_store_own (v := .agg sc.toArray) (vs := sc) (o := pes.length * 30) (g := g2) 55 _ _ rfl (by go_simp) (by go_simp) rfl ho3 (infoES.trans (congrArg some HLs.out.symm)) (by rw [List.length_append, hxl, HLs.out]; exact Nat.le_refl _) HS.out.one ?_
    intro w4 ho4 hg4 hs4
    rw [hpt] at ho4
    have HBE : Hid (Blk w4 gg [ov, .slice (some ⟨g2, 0, none⟩) (pes.length + 1) c3]) := hB3.grown hg4 hne1
    have HE := Lib.hid (HPush.out w3 w4 _ _ (.inr ⟨rfl, rfl⟩) hg3 hg4 ho4)
    have hP04 : Blk w4 g3 sc := hP03.grown hg4 hne3
    refine hK.out _ _ (InvG.past hP04 (by kernel_rfl)) (fun _ => ?_)
    clear hK
    change wpAnyG _ _ _ _ _ _ _ _ #[_, _, _, _, _, _, _, _, _, _, _, _, _] ⟨#[_, _, _, _, _, _, _, _, _, _, _, _, _, _, _, _, _, _, _, _, _, _, _, _, _, _, _, _, _, _, _, _, _, _, _, _, _, _, _, _, _, _, _, _, _, _, _, _, _, _, _, _, _, _, _, _, _, _, _, _, _, _, _, _, _, _, _, _, _, _, _, _, _, _, _, _], _⟩ _
    refine wpAnyG_done (by kernel_rfl) ?_ _
    clear hP0 hP hba hP0a hBa ho2 hg2 hat hl2 hgr2 hB2 hxl hP02 hix hq2 hpt hg2b hne1 hne2 ho3 hg3 hs3 hB3 hP03 ho4 hg4 hs4 hP04
    go_wp2_with fail
    go_end0
    exact Hfin.out _ _ _ HE.out.1 HE.out.2 HBE.out

set_option maxRecDepth 100000 in
set_option maxHeartbeats 4000000 in
theorem gstep_change (h : Frag) (w : World) (gg : Nat) (ov pv : Value) (out puts : List Val.St) (oes pes : List (List Value)) (hG : GatAt h w gg ov pv out puts oes pes) (hl : out.length + puts.length ≤ 1000000) (s : Val.St) (sc : List Value) (hs : StR h s sc) (hk : s.1 = 4) (hx : s.2.2.2.kind ≠ 0) :
    Calls Tryd.prog 73 #[.pointer (some ⟨gg, 0, none⟩), .agg sc.toArray] w (GatPost h w gg (out ++ puts ++ [s]) []) := by
  have H0 := Lib.hid (fun (w2 : World) (g : Nat) (hB : Blk w2 g sc) => And.intro (hB.cell hs.c0) (And.intro (hB.cell hs.c1) (show w2.cell? ⟨g, 9, none⟩ = some _ from hB.cell hs.c9)))
  have HLs := Lib.hid hs.len
  have HS := Lib.hid hs
  have HG0 := Lib.hid hG
  have Hgg := Lib.hid hG.blk.lt
  have Hol := Lib.hid hG.ro.len
  have Hpl := Lib.hid hG.rp.len
  have HFl := Lib.hid (fun (wx : World) (hb : Below w.heap.size w wx) => flush_any h wx gg ov pv out puts oes pes (hG.keep hb) hl)
  rw [hk] at H0
  clear hk
  generalize s.2.2.2.kind = kx at *
  have hd1 : decide (kx = 0) = false := decide_eq_false hx
  have hd2 : (kx == 0) = false := by simpa using hx
  clear hx
  clear hG hs
  go_enter Tryd.func73, Tryd.ntmps73
  go_wp2_with (first
    | (refine wpList_box_lay rfl 55 _ rfl _ rfl ?_; (intro w0 g3 hg3 hB0 hb0; obtain ⟨r0, r1, r9⟩ := H0.out w0 g3 hB0))
    | (go_at_call 74; (with_reducible refine (HFl.out _ hb0).mono ?_); rintro e w1 ⟨rfl, hb1, ov1, aes, hG1, hfr⟩; have Hb1 := Lib.hid hb1; have HG1 := Lib.hid hG1; have Hfr := Lib.hid hfr; clear hb1 hG1 hfr r0 r1 r9))
  have HGw := Lib.hid (HG0.out.keep hb0)
  obtain ⟨oa, oc, hov, hrow, hnc, hcm, hnil⟩ := own_slice HG1.out.oo
  subst hov
  clear hrow hnc hcm hnil
  have HG := Lib.hid HG1.out.toRows2
  have HB := Lib.hid HG1.out.blk
  have hfr3 := Hfr.out g3 hB0.lt (by have := Hgg.out; omega) (lt_flat (w := w) HG0.out.toRows2 g3 hg3)
  have HB3 : Hid (Blk w1 g3 sc) := by obtain ⟨t, ht⟩ := hB0; exact ⟨t, hfr3.1.trans ht⟩
  have N3 : Hid (gg ≠ g3 ∧ (Value.slice oa aes.length oc).ownBlock ≠ some g3) := ⟨by have := Hgg.out; omega, hfr3.2⟩
  have Hb0 := Lib.hid hb0
  have Hal := Lib.hid HG1.out.ro.len
  have Hbd : Hid ((aes.length + 1) * 496 ≤ 140737488355328) := by show _ ≤ _; have := Hal.out; rw [List.length_append] at this; omega
  have Hfin : Hid (∀ Fw g2 c3, Below gg w1 Fw → Rows2 h Fw gg (.slice (some ⟨g2, 0, none⟩) (aes.length + 1) c3) (.slice none 0 0) (out ++ puts ++ [s]) [] (aes ++ [sc]) [] → Blk Fw gg [.slice (some ⟨g2, 0, none⟩) (aes.length + 1) c3, .slice none 0 0] → GatPost h w gg (out ++ puts ++ [s]) [] (.returned (.tuple #[])) Fw) :=
    fun Fw g2 c3 hb hr hB => ⟨rfl, (Hb0.out.mono (Nat.le_of_lt Hgg.out)).trans (Hb1.out.trans hb), _, _, _, _, hr, hB⟩
  clear hB0 hb0 hg3 hl hfr3
  have hP0 : Blk w1.drew g3 sc := HB3.out.drew
  have hP : w1.drew.cell? ⟨gg, 0, none⟩ = some (.slice oa aes.length oc) := HB.out.cell rfl
  refine wp_region_G 12 (fun w' => Blk w' g3 sc) (fun w' => w'.cell? ⟨gg, 0, none⟩ = some (.slice oa aes.length oc)) (by kernel_rfl) hP0 hP (fun _ => ?_)
  refine wpAnyG_take (i := 0) (v := .pointer (some ⟨gg, 0, none⟩)) rfl (by kernel_rfl) (fun _ _ _ h => h) (.inl ⟨by rfl, fun w hw => by go_simp⟩) (InvG.mk hP0 hP) ?_
  change wpAnyG _ _ _ _ _ _ _ _ #[_, _, _, _, _, _, _, _, _, _, _, _, _] ⟨#[_, _, _, _, _, _, _, _, _, _, _, _, _, _, _, _, _, _, _, _, _, _, _, _, _, _, _, _, _, _, _, _, _, _, _, _, _, _, _, _, _, _, _, _, _, _, _, _, _, _, _, _, _, _, _, _, _, _, _, _, _, _, _, _, _, _, _, _, _, _, _, _, _, _, _, _], _⟩ _
  refine wpAnyG_take (i := 1) (v := .pointer (some ⟨gg, 0, none⟩)) rfl (by kernel_rfl) (fun _ _ _ h => h) (.inl ⟨by rfl, fun w hw => by go_simp⟩) (InvG.mk hP0 hP) ?_
  change wpAnyG _ _ _ _ _ _ _ _ #[_, _, _, _, _, _, _, _, _, _, _, _, _] ⟨#[_, _, _, _, _, _, _, _, _, _, _, _, _, _, _, _, _, _, _, _, _, _, _, _, _, _, _, _, _, _, _, _, _, _, _, _, _, _, _, _, _, _, _, _, _, _, _, _, _, _, _, _, _, _, _, _, _, _, _, _, _, _, _, _, _, _, _, _, _, _, _, _, _, _, _, _], _⟩ _
  refine wpAnyG_take (i := 2) (v := .pointer (some ⟨gg, 0, none⟩)) rfl (by kernel_rfl) (fun _ _ _ h => h) (.inl ⟨by rfl, fun w hw => by go_simp⟩) (InvG.mk hP0 hP) ?_
  change wpAnyG _ _ _ _ _ _ _ _ #[_, _, _, _, _, _, _, _, _, _, _, _, _] ⟨#[_, _, _, _, _, _, _, _, _, _, _, _, _, _, _, _, _, _, _, _, _, _, _, _, _, _, _, _, _, _, _, _, _, _, _, _, _, _, _, _, _, _, _, _, _, _, _, _, _, _, _, _, _, _, _, _, _, _, _, _, _, _, _, _, _, _, _, _, _, _, _, _, _, _, _, _], _⟩ _
  refine wpAnyG_take (i := 3) (v := (.slice oa aes.length oc)) rfl (by kernel_rfl) (fun _ _ _ h => h) (.inl ⟨by rfl, fun w hw => by have hc := hw.2; clear hw; go_simp⟩) (InvG.mk hP0 hP) ?_
  change wpAnyG _ _ _ _ _ _ _ _ #[_, _, _, _, _, _, _, _, _, _, _, _, _] ⟨#[_, _, _, _, _, _, _, _, _, _, _, _, _, _, _, _, _, _, _, _, _, _, _, _, _, _, _, _, _, _, _, _, _, _, _, _, _, _, _, _, _, _, _, _, _, _, _, _, _, _, _, _, _, _, _, _, _, _, _, _, _, _, _, _, _, _, _, _, _, _, _, _, _, _, _, _], _⟩ _
  refine wpAnyG_take0 (i := 4) (v := .agg sc.toArray) rfl (by kernel_rfl) (fun _ _ _ h => h) (yieldsIf_load_mid (by rfl) 55 _ rfl g3 0 (by go_simp) sc _ (fun w h => h.whole) Tryd.underlying55 rfl (infoES.trans (congrArg some HLs.out.symm))) (InvG.mk hP0 hP) ?_
  change wpAnyG _ _ _ _ _ _ _ _ #[_, _, _, _, _, _, _, _, _, _, _, _, _] ⟨#[_, _, _, _, _, _, _, _, _, _, _, _, _, _, _, _, _, _, _, _, _, _, _, _, _, _, _, _, _, _, _, _, _, _, _, _, _, _, _, _, _, _, _, _, _, _, _, _, _, _, _, _, _, _, _, _, _, _, _, _, _, _, _, _, _, _, _, _, _, _, _, _, _, _, _, _], _⟩ _
  refine wpAnyG_take0 (i := 5) (v := .int .i64 (aes.length : Nat)) rfl (by kernel_rfl) (fun _ _ _ h => h) (.inl ⟨by rfl, fun w hw => by go_simp⟩) (InvG.mk hP0 hP) ?_
  change wpAnyG _ _ _ _ _ _ _ _ #[_, _, _, _, _, _, _, _, _, _, _, _, _] ⟨#[_, _, _, _, _, _, _, _, _, _, _, _, _, _, _, _, _, _, _, _, _, _, _, _, _, _, _, _, _, _, _, _, _, _, _, _, _, _, _, _, _, _, _, _, _, _, _, _, _, _, _, _, _, _, _, _, _, _, _, _, _, _, _, _, _, _, _, _, _, _, _, _, _, _, _, _], _⟩ _
  refine wpAnyG_ready (rs := [6]) (by kernel_rfl) (by simp) ?_
  refine AllReadyG.plain rfl rfl (fun K hK => ?_) AllReadyG.nil
  refine wp_buildSlice1 29 55 _ rfl zES (.agg zES.toArray) (by rfl) Tryd.underlying29 infoES2 (by decide) (by decide) rfl ?_
  have hba : Below w1.heap.size w1 (w1.drew.alloc (.cells zES.toArray 55)) := ((Below.refl _ _).drew).alloc (Nat.le_refl _) _
  have hP0a : Blk (w1.drew.alloc (.cells zES.toArray 55)) g3 sc := HB3.out.below hba HB3.out.lt
  have hBa : Blk (w1.drew.alloc (.cells zES.toArray 55)) gg [.slice oa aes.length oc, .slice none 0 0] := HB.out.below hba HB.out.lt
  refine hK.out _ _ (InvG.mk hP0a (hBa.cell rfl)) (fun _ => ?_)
  clear hK
  change wpAnyG _ _ _ _ _ _ _ _ #[_, _, _, _, _, _, _, _, _, _, _, _, _] ⟨#[_, _, _, _, _, _, _, _, _, _, _, _, _, _, _, _, _, _, _, _, _, _, _, _, _, _, _, _, _, _, _, _, _, _, _, _, _, _, _, _, _, _, _, _, _, _, _, _, _, _, _, _, _, _, _, _, _, _, _, _, _, _, _, _, _, _, _, _, _, _, _, _, _, _, _, _], _⟩ _
  refine wpAnyG_ready (rs := [7]) (by kernel_rfl) (by simp) ?_
  refine AllReadyG.plain rfl rfl (fun K hK => ?_) AllReadyG.nil
  obtain ⟨i0, hi0, hi1, hi2, hi3⟩ := info_parts T_ES.info
  have HGd := Lib.hid (HG.out.keep ((Below.refl w1.heap.size w1).drew))
  refine wp_append_lies _ _ _ 29 rfl (gg + 1) 55 i0 (.agg zES.toArray) 30 496 Tryd.underlying29 hi0 hi1 hi2 hi3 rfl (by decide) (.slice oa aes.length oc) aes.length aes.flatten (by go_simp) (HGd.out.oo.alloc _) ⟨w1.drew.heap.size, 0, none⟩ 1 1 zES (by go_simp) rfl (World.news_of_block (heap_alloc_new w1.drew _)) zES_one (by decide) (show aes.length + 1 ≤ maxLen by have := Hbd.out; unfold maxLen; omega) Hbd.out (Nat.le_trans (Nat.succ_le_of_lt HB.out.lt) (by simp)) (w1.heap.size + 1) (by simp) ?_
  intro g2 c3 w2 ho2 hg2 hat hl2
  clear hi0 hi1 hi2 hi3
  have hgr2 : w1.grownBy w2 (Value.slice oa aes.length oc).ownBlock := grown_of_alloc hg2
  have hB2 := hBa.grown hg2 (own_ne_base HGd.out.oo)
  have hxl : aes.flatten.length = aes.length * 30 := HGd.out.ro.flat_len
  have hP02 : Blk w2 g3 sc := HB3.out.grown hgr2 (fun e => N3.out.2 e.symm)
  refine hK.out _ _ (InvG.mk hP02 (hB2.cell rfl)) (fun _ => ?_)
  clear hK
  change wpAnyG _ _ _ _ _ _ _ _ #[_, _, _, _, _, _, _, _, _, _, _, _, _] ⟨#[_, _, _, _, _, _, _, _, _, _, _, _, _, _, _, _, _, _, _, _, _, _, _, _, _, _, _, _, _, _, _, _, _, _, _, _, _, _, _, _, _, _, _, _, _, _, _, _, _, _, _, _, _, _, _, _, _, _, _, _, _, _, _, _, _, _, _, _, _, _, _, _, _, _, _, _], _⟩ _
  have hix := own_idx (P := Tryd.prog) (t := 29) (g := g2) (cap := c3) (show aes.length < aes.length + 1 by omega) Tryd.underlying29 sizeES
  have hq2 : w2.cell? ⟨gg, 0, none⟩ = some (.slice oa aes.length oc) := hB2.cell rfl
  refine wpAnyG_take0 (i := 8) (v := .pointer (some ⟨g2, aes.length * 30, none⟩)) rfl (by kernel_rfl) (fun _ _ _ h => h) (.inl ⟨by rfl, fun w hw => by have hi := hix w; clear hix; go_simp⟩) (InvG.mk hP02 hq2) ?_
  change wpAnyG _ _ _ _ _ _ _ _ #[_, _, _, _, _, _, _, _, _, _, _, _, _] ⟨#[_, _, _, _, _, _, _, _, _, _, _, _, _, _, _, _, _, _, _, _, _, _, _, _, _, _, _, _, _, _, _, _, _, _, _, _, _, _, _, _, _, _, _, _, _, _, _, _, _, _, _, _, _, _, _, _, _, _, _, _, _, _, _, _, _, _, _, _, _, _, _, _, _, _, _, _], _⟩ _
  refine wpAnyG_take (i := 10) (v := .pointer (some ⟨gg, 0, none⟩)) rfl (by kernel_rfl) (fun _ _ _ h => h) (.inl ⟨by rfl, fun w hw => by go_simp⟩) (InvG.mk hP02 hq2) ?_
  change wpAnyG _ _ _ _ _ _ _ _ #[_, _, _, _, _, _, _, _, _, _, _, _, _] ⟨#[_, _, _, _, _, _, _, _, _, _, _, _, _, _, _, _, _, _, _, _, _, _, _, _, _, _, _, _, _, _, _, _, _, _, _, _, _, _, _, _, _, _, _, _, _, _, _, _, _, _, _, _, _, _, _, _, _, _, _, _, _, _, _, _, _, _, _, _, _, _, _, _, _, _, _, _], _⟩ _
  refine wpAnyG_take (i := 11) (v := .pointer (some ⟨gg, 0, none⟩)) rfl (by kernel_rfl) (fun _ _ _ h => h) (.inl ⟨by rfl, fun w hw => by go_simp⟩) (InvG.mk hP02 hq2) ?_
  change wpAnyG _ _ _ _ _ _ _ _ #[_, _, _, _, _, _, _, _, _, _, _, _, _] ⟨#[_, _, _, _, _, _, _, _, _, _, _, _, _, _, _, _, _, _, _, _, _, _, _, _, _, _, _, _, _, _, _, _, _, _, _, _, _, _, _, _, _, _, _, _, _, _, _, _, _, _, _, _, _, _, _, _, _, _, _, _, _, _, _, _, _, _, _, _, _, _, _, _, _, _, _, _], _⟩ _
  have hpt : patch (aes.flatten ++ zES) (aes.length * 30) sc = aes.flatten ++ sc := by have e := patch_at (p := aes.flatten) (q := zES) (r := []) (vs := sc) hxl (by rw [HLs.out]; rfl); simpa using e
  have hg2b : gg + 1 ≤ g2 := (ho2.lt g2 rfl).1
  have hne1 : some gg ≠ some g2 := by intro e; cases e; omega
  have hne2 : (Value.slice (some ⟨g2, 0, none⟩) (aes.length + 1) c3).ownBlock ≠ some gg := fun e => hne1 e.symm
  have hne3 : some g3 ≠ some g2 := fun e => by
    have e := Option.some.inj e
    subst e
    rcases hat with h | h
    · exact N3.out.2 h
    · have := HB3.out.lt; omega
  have HPush := Lib.hid (fun (wA Fw : World) (X1 X2 : Option Nat) (hX : (X1 = some g2 ∧ X2 = some gg) ∨ (X1 = some gg ∧ X2 = some g2)) (h1 : w2.grownBy wA X1) (h2 : wA.grownBy Fw X2) (ho : Fw.ownsRow (gg + 1) 55 30 (.slice (some ⟨g2, 0, none⟩) (aes.length + 1) c3) (aes.length + 1) (aes.flatten ++ sc)) => HG.out.push HS.out HB.out.lt hgr2 (hat.imp id (fun e => by rw [e]; exact Nat.le_succ _)) hg2b hX h1 h2 ho)
  refine wpAnyG_ready (rs := [9, 12]) (by kernel_rfl) (by simp) ?_
  refine AllReadyG.plain rfl rfl (fun K hK => ?_) (AllReadyG.plain rfl rfl (fun K hK => ?_) AllReadyG.nil)
  · refine wp_store_own (v := .agg sc.toArray) (vs := sc) (o := aes.length * 30) (g := g2) 55 _ _ rfl (by go_simp) (by go_simp) rfl ho2 (infoES.trans (congrArg some HLs.out.symm)) (by rw [List.length_append, hxl, HLs.out]; exact Nat.le_refl _) HS.out.one ?_
    intro w3 ho3 hg3 hs3
    rw [hpt] at ho3
    have hB3 := hB2.grown hg3 hne1
    have hP03 : Blk w3 g3 sc := hP02.grown hg3 hne3
    refine hK.out _ _ (InvG.mk hP03 (hB3.cell rfl)) (fun _ => ?_)
    clear hK
    change wpAnyG _ _ _ _ _ _ _ _ #[_, _, _, _, _, _, _, _, _, _, _, _, _] ⟨#[_, _, _, _, _, _, _, _, _, _, _, _, _, _, _, _, _, _, _, _, _, _, _, _, _, _, _, _, _, _, _, _, _, _, _, _, _, _, _, _, _, _, _, _, _, _, _, _, _, _, _, _, _, _, _, _, _, _, _, _, _, _, _, _, _, _, _, _, _, _, _, _, _, _, _, _], _⟩ _
    refine wpAnyG_ready (rs := [12]) (by kernel_rfl) (by simp) ?_
    refine AllReadyG.plain rfl rfl (fun K hK => ?_) AllReadyG.nil
    refine wp_store_lay 29 _ _ rfl gg 0 (.slice (some ⟨g2, 0, none⟩) (aes.length + 1) c3) [(.slice (some ⟨g2, 0, none⟩) (aes.length + 1) c3)] [.slice oa aes.length oc, .slice none 0 0] (by go_simp) (by go_simp) rfl hB3 infoSs (show 0 + 1 ≤ 2 by decide) (by simp [Value.oneCell']) ?_
    intro w4 hB4 hg4 hs4
    have HBE : Hid (Blk w4 gg [.slice (some ⟨g2, 0, none⟩) (aes.length + 1) c3, .slice none 0 0]) := hB4
    have HE := Lib.hid (HPush.out w3 w4 _ _ (.inl ⟨rfl, rfl⟩) hg3 hg4 (ho3.kept hg4 (.inr hne2)))
    have hP04 : Blk w4 g3 sc := hP03.grown hg4 (fun e => N3.out.1 (Option.some.inj e).symm)
    refine hK.out _ _ (InvG.past hP04 (by kernel_rfl)) (fun _ => ?_)
    clear hK
    change wpAnyG _ _ _ _ _ _ _ _ #[_, _, _, _, _, _, _, _, _, _, _, _, _] ⟨#[_, _, _, _, _, _, _, _, _, _, _, _, _, _, _, _, _, _, _, _, _, _, _, _, _, _, _, _, _, _, _, _, _, _, _, _, _, _, _, _, _, _, _, _, _, _, _, _, _, _, _, _, _, _, _, _, _, _, _, _, _, _, _, _, _, _, _, _, _, _, _, _, _, _, _, _], _⟩ _
    refine wpAnyG_done (by kernel_rfl) ?_ _
    clear hP0 hP hba hP0a hBa ho2 hg2 hat hl2 hgr2 hB2 hxl hP02 hix hq2 hpt hg2b hne1 hne2 ho3 hg3 hs3 hB3 hP03 hB4 hg4 hs4 hP04
    go_wp2_with fail
    go_end0
    exact Hfin.out _ _ _ HE.out.1 HE.out.2 HBE.out
  · refine wp_store_lay 29 _ _ rfl gg 0 (.slice (some ⟨g2, 0, none⟩) (aes.length + 1) c3) [(.slice (some ⟨g2, 0, none⟩) (aes.length + 1) c3)] [.slice oa aes.length oc, .slice none 0 0] (by go_simp) (by go_simp) rfl hB2 infoSs (show 0 + 1 ≤ 2 by decide) (by simp [Value.oneCell']) ?_
    intro w3 hB3 hg3 hs3
    have ho3 := ho2.kept hg3 (.inr hne2)
    have hP03 : Blk w3 g3 sc := hP02.grown hg3 (fun e => N3.out.1 (Option.some.inj e).symm)
    refine hK.out _ _ (InvG.past hP03 (by kernel_rfl)) (fun _ => ?_)
    clear hK
    change wpAnyG _ _ _ _ _ _ _ _ #[_, _, _, _, _, _, _, _, _, _, _, _, _] ⟨#[_, _, _, _, _, _, _, _, _, _, _, _, _, _, _, _, _, _, _, _, _, _, _, _, _, _, _, _, _, _, _, _, _, _, _, _, _, _, _, _, _, _, _, _, _, _, _, _, _, _, _, _, _, _, _, _, _, _, _, _, _, _, _, _, _, _, _, _, _, _, _, _, _, _, _, _], _⟩ _
    refine wpAnyG_ready (rs := [9]) (by kernel_rfl) (by simp) ?_
    refine AllReadyG.plain rfl rfl (fun K hK => ?_) AllReadyG.nil
    refine wp_store_own (v := .agg sc.toArray) (vs := sc) (o := aes.length * 30) (g := g2) 55 _ _ rfl (by go_simp) (by go_simp) rfl ho3 (infoES.trans (congrArg some HLs.out.symm)) (by rw [List.length_append, hxl, HLs.out]; exact Nat.le_refl _) HS.out.one ?_
    intro w4 ho4 hg4 hs4
    rw [hpt] at ho4
    have HBE : Hid (Blk w4 gg [.slice (some ⟨g2, 0, none⟩) (aes.length + 1) c3, .slice none 0 0]) := hB3.grown hg4 hne1
    have HE := Lib.hid (HPush.out w3 w4 _ _ (.inr ⟨rfl, rfl⟩) hg3 hg4 ho4)
    have hP04 : Blk w4 g3 sc := hP03.grown hg4 hne3
    refine hK.out _ _ (InvG.past hP04 (by kernel_rfl)) (fun _ => ?_)
    clear hK
    change wpAnyG _ _ _ _ _ _ _ _ #[_, _, _, _, _, _, _, _, _, _, _, _, _] ⟨#[_, _, _, _, _, _, _, _, _, _, _, _, _, _, _, _, _, _, _, _, _, _, _, _, _, _, _, _, _, _, _, _, _, _, _, _, _, _, _, _, _, _, _, _, _, _, _, _, _, _, _, _, _, _, _, _, _, _, _, _, _, _, _, _, _, _, _, _, _, _, _, _, _, _, _, _], _⟩ _
    refine wpAnyG_done (by kernel_rfl) ?_ _
    clear hP0 hP hba hP0a hBa ho2 hg2 hat hl2 hgr2 hB2 hxl hP02 hix hq2 hpt hg2b hne1 hne2 ho3 hg3 hs3 hB3 hP03 ho4 hg4 hs4 hP04
    go_wp2_with fail
    go_end0
    exact Hfin.out _ _ _ HE.out.1 HE.out.2 HBE.out

end Go.Proofs.YtkldcjlkeblggaaDoor

/- edit.Tidy, walked: steps that have no two keeps side by side. -/
namespace Go.Proofs.YtkldcjlkeblggaaDoor
open Go.RowKit
open Val (V E)
set_option linter.unusedVariables false
set_option linter.unusedSimpArgs false

abbrev Val.tst (l : List Val.St) (k : Nat) : List Val.St × List Val.St := Val.tidyFrom ([], []) (l.take k)
/-- what holds ahead of step k -/
def Val.TInv (l : List Val.St) (k : Nat) : Prop := ∃ pk, Val.noKK pk (l.drop k) ∧ (∀ s ∈ (Val.tst l k).2, s.1 = 3) ∧ (Val.lastQ 0 ((Val.tst l k).1 ++ (Val.tst l k).2) = 1 → pk = 1)
theorem Val.TInv.start {l : List Val.St} (h : Val.noKK 0 l) : Val.TInv l 0 := ⟨0, by simpa using h, fun s hs => by simp [Val.tst, Val.tidyFrom] at hs, fun h => by simp [Val.tst, Val.tidyFrom, Val.lastQ] at h⟩
/-- what step k does -/
def Val.StepIs (s : Val.St) (out puts : List Val.St) : Prop :=
  (s.1 = 1 ∧ 1 ≤ s.2.1 ∧ Val.lastQ 0 (out ++ puts) ≠ 1 ∧ Val.tstep (out, puts) s = (Val.addKeep (out ++ puts) s.2.1, [])) ∨ (s.1 = 2 ∧ Val.tstep (out, puts) s = (out ++ [s], puts)) ∨
  (s.1 = 3 ∧ Val.tstep (out, puts) s = (out, puts ++ [s])) ∨ (s.1 = 4 ∧ s.2.2.2.kind ≠ 0 ∧ Val.tstep (out, puts) s = (out ++ puts ++ [s], []))
theorem Val.TInv.step {l : List Val.St} {k : Nat} (h : Val.TInv l k) (hk : k < l.length) : Val.StepIs l[k] (Val.tst l k).1 (Val.tst l k).2 ∧ Val.TInv l (k + 1) ∧ Val.tst l (k + 1) = Val.tstep (Val.tst l k) l[k] := by
  obtain ⟨pk, hn, hp, hq⟩ := h
  have ht : Val.tst l (k + 1) = Val.tstep (Val.tst l k) l[k] := Val.tidyFrom_take l hk
  rw [List.drop_eq_getElem_cons hk, Val.noKK] at hn
  obtain ⟨hs, hkk, hn⟩ := hn
  unfold Val.TInv
  rw [ht]
  generalize Val.tst l k = st at *
  obtain ⟨out, puts⟩ := st
  generalize l[k] = s at *
  obtain ⟨kd, c, v, x⟩ := s
  simp only at hp hq hkk hn ⊢
  rcases Val.sRight_cases hs with ⟨h1, h2, h5⟩ | h1 | h1 | ⟨h1, h2⟩
  · simp only at h1 h2 h5; subst h1
    have e2 : Val.tstep (out, puts) (1, c, v, x) = (Val.addKeep (out ++ puts) c, []) := by unfold Val.tstep; exact if_pos ⟨rfl, h2⟩
    have hlk : Val.lastQ 0 (out ++ puts) ≠ 1 := fun h => hkk ⟨hq h, rfl⟩
    refine ⟨.inl ⟨rfl, h2, hlk, e2⟩, ⟨1, hn, ?_, fun _ => rfl⟩, trivial⟩
    rw [e2]; exact fun s hs => by cases hs
  · simp only at h1; subst h1
    have e2 : Val.tstep (out, puts) (2, c, v, x) = (out ++ [(2, c, v, x)], puts) := by unfold Val.tstep; simp
    refine ⟨.inr (.inl ⟨rfl, e2⟩), ⟨2, hn, ?_, fun h => ?_⟩, trivial⟩
    · rw [e2]; exact hp
    · rw [e2] at h
      simp only at h
      rw [Val.lastQ_append, Val.lastQ_append] at h
      have := (Val.lastQ_puts hp h).2
      have : (2 : Int) = 1 := this
      omega
  · simp only at h1; subst h1
    have e2 : Val.tstep (out, puts) (3, c, v, x) = (out, puts ++ [(3, c, v, x)]) := by unfold Val.tstep; simp
    refine ⟨.inr (.inr (.inl ⟨rfl, e2⟩)), ⟨3, hn, ?_, fun h => ?_⟩, trivial⟩
    · rw [e2]
      intro s hs
      rcases List.mem_append.1 hs with h | h
      · exact hp s h
      · simp only [List.mem_singleton] at h; subst h; rfl
    · rw [e2] at h
      simp only at h
      rw [← List.append_assoc, Val.lastQ_append] at h
      have : (3 : Int) = 1 := h; omega
  · simp only at h1 h2; subst h1
    have e2 : Val.tstep (out, puts) (4, c, v, x) = (out ++ puts ++ [(4, c, v, x)], []) := by unfold Val.tstep; simp [h2]
    refine ⟨.inr (.inr (.inr ⟨rfl, h2, e2⟩)), ⟨4, hn, ?_, fun h => ?_⟩, trivial⟩
    · rw [e2]; exact fun s hs => by cases hs
    · rw [e2] at h
      simp only at h
      rw [List.append_nil, Val.lastQ_append] at h
      have : (4 : Int) = 1 := h; omega

theorem gstep_all (h : Frag) (w : World) (gg : Nat) (out puts : List Val.St) (hG : GatW h w gg out puts) (hl : out.length + puts.length ≤ 1000000) (s : Val.St) (sc : List Value) (hs : StR h s sc) (hi : Val.StepIs s out puts) :
    Calls Tryd.prog 73 #[.pointer (some ⟨gg, 0, none⟩), .agg sc.toArray] w (GatPost h w gg (Val.tstep (out, puts) s).1 (Val.tstep (out, puts) s).2) := by
  obtain ⟨ov, pv, oes, pes, hG⟩ := hG
  rcases hi with ⟨h1, h2, h3, e⟩ | ⟨h1, e⟩ | ⟨h1, e⟩ | ⟨h1, h2, e⟩
  · rw [e]; exact gstep_keep h w gg ov pv out puts oes pes hG hl s sc hs h1 h2 h3
  · rw [e]; exact gstep_drop h w gg ov pv out puts oes pes hG hl s sc hs h1
  · rw [e]; exact gstep_put h w gg ov pv out puts oes pes hG hl s sc hs h1
  · rw [e]; exact gstep_change h w gg ov pv out puts oes pes hG hl s sc hs h1 h2
theorem ESs.atS {h : Frag} {l : List Val.St} {es : List (List Value)} (hl : ESs h l es) {i : Nat} (hi : i < l.length) (he : i < es.length) : StR h l[i] es[i] := by
  obtain ⟨vc, xc, e, h1, h2⟩ := hl.at hi he
  exact ⟨vc, xc, e, h1, h2⟩

set_option maxRecDepth 100000 in
set_option maxHeartbeats 1000000 in
theorem tidy_any (F : List (Option Nat)) (l : List Val.St) (v : Value) (es : List (List Value)) (w : World) (hF : ∀ k, some k ∈ F → k < w.heap.size) (hn : Val.noKK 0 l) (hlen : l.length ≤ 90000) (hv : FlatC 30 (fragE w F) v es) (hes : ESs (fragE w F) l es) :
    Calls Tryd.prog 62 #[v] w (RetS F w (Val.tidy l)) := by
  obtain ⟨a1, c1, hv1, hc1, hc2, hcn⟩ := hv.len
  subst hv1
  have HV := Lib.hid hv
  have HE := Lib.hid hes
  have hel := hes.len
  have HF := Lib.hid hF
  have HT := Lib.hid (Val.TInv.start hn)
  obtain ⟨ns, hns⟩ : ∃ ns, ns = es.length := ⟨_, rfl⟩
  rw [← hns] at HV hc1 hel ⊢
  have Hn := Lib.hid hns.symm; have Hm := Lib.hid hel.symm
  have hb90 : ns ≤ 90000 := by omega
  clear hv hes hF hn hlen hns hel
  go_enter Tryd.func62, Tryd.ntmps62
  go_wp2_with (first
    | (refine wpList_box_lay rfl _ _ rfl [.slice none 0 0, .slice none 0 0] rfl ?_; (intro w1 gg hgg hB1 hb1)))
  have Hgg : Hid (w.heap.size ≤ gg) := hgg
  have Hb1 := Lib.hid hb1
  have HG0 : Hid (GatW (fragE w F) w1 gg (Val.tst l 0).1 (Val.tst l 0).2) := ⟨_, _, [], [], ⟨⟨by simp, .inl ⟨rfl, rfl⟩⟩, ⟨by simp, .inl ⟨rfl, rfl⟩⟩, fun k h => by simp [Value.ownBlock] at h, by simp [Val.tst, Val.tidyFrom, ESs], by simp [Val.tst, Val.tidyFrom, ESs]⟩, hB1⟩
  have Hgl := Lib.hid hB1.lt
  clear hgg hb1 hB1
  go_wp2_with fail
  go_loopw [10] (fun i wr => ∃ (k : Nat), k ≤ ns ∧ i = .int .i64 k ∧ Hid (GatW (fragE w F) wr gg (Val.tst l k).1 (Val.tst l k).2) ∧ Hid (Val.TInv l k) ∧ Hid (Below gg w1 wr)) (fun i _ => ns - (intOf i).toNat)
  case atStart => exact ⟨0, Nat.zero_le _, rfl, HG0, HT, Below.refl _ _⟩
  case round =>
    obtain ⟨k, hkn, rfl, HG, HI, HB⟩ := hrel
    have Hbw : Hid (Below w.heap.size w wr) := Hb1.out.trans (HB.out.mono Hgg.out)
    have Hll : Hid ((Val.tst l k).1.length + (Val.tst l k).2.length ≤ 1000000) := by
      show _ ≤ _
      have h := Val.tidyFrom_len (l.take k) ([], [])
      simp only [List.length_nil, Nat.zero_add, List.length_take] at h
      have := Hm.out
      show (Val.tidyFrom ([], []) (l.take k)).1.length + (Val.tidyFrom ([], []) (l.take k)).2.length ≤ 1000000
      omega
    by_cases hlt : k < ns
    · have hks : k < es.length := by rw [Hn.out]; exact hlt
      have hkl : k < l.length := by rw [Hm.out]; exact hlt
      obtain ⟨b0, o0, hb0, hidx, hcell⟩ := FlatC.at (n := ns) (cap := c1) (a := a1) (HV.out.mono (fragE_le _ _)) (by decide) (i := k) hks Tryd.underlying29 sizeES
      have hr : wr.rangeAt b0 o0 es[k] := range_below hcell Hbw.out hb0
      have HS := Lib.hid (HE.out.atS hkl hks)
      have HLs := Lib.hid HS.out.len
      have HOs := Lib.hid HS.out.one
      have HStp := Lib.hid (HI.out.step hkl)
      have HK := Lib.hid (fun (wx : World) (hb : Below wr.heap.size wr wx) => gstep_all (fragE w F) wx gg (Val.tst l k).1 (Val.tst l k).2 (by
        obtain ⟨ov, pv, oes, pes, hG⟩ := HG.out
        exact ⟨ov, pv, oes, pes, hG.keep hb⟩) Hll.out l[k] es[k] HS.out HStp.out.1)
      have Hgr : Hid (gg ≤ wr.heap.size) := Nat.le_trans (Nat.le_of_lt Hgl.out) HB.out.size
      clear hcell
      generalize es[k] = sc at *
      go_wp2_with (first
        | (refine wpList_load_seg rfl 55 _ rfl _ _ rfl _ _ (by assumption) Tryd.underlying55 rfl ?_ ?_; (· exact infoES.trans (congrArg some HLs.out.symm)))
        | (refine wpList_alloc_lay rfl 55 rfl zES zeroES ?_; (intro w4 g7 hg7 hB7 hb4; clear hr))
        | (refine wpList_store_all rfl 55 _ _ rfl _ _ rfl rfl zES (by assumption) ?_ ?_ ?_ ?_; (· exact infoES.trans (congrArg some HLs.out.symm)); (· exact HLs.out); (· exact HOs.out); (intro w5 hB9 hgr5; have hb5 := Below.grown hb4 hgr5 hb4.size (fun _ e => by cases e; exact hg7); have hr := hB9.whole; clear hb4 hgr5 hB7))
        | (go_at_call 73; (with_reducible refine (HK.out _ hb5).mono ?_); rintro e w6 ⟨rfl, hb6, hG6⟩; have Hb6 : Hid (Below gg w1 w6) := HB.out.trans ((hb5.mono Hgr.out).trans hb6); have HG6 := Lib.hid hG6; clear hb6 hG6 hr hb5 hg7 hB9 hidx))
      go_roundw
      case rel =>
        refine ⟨k + 1, by omega, by go_num, ?_, HStp.out.2.1, Hb6.out⟩
        show GatW _ _ _ (Val.tst l (k + 1)).1 (Val.tst l (k + 1)).2
        rw [HStp.out.2.2]; exact HG6.out
      case measure => simp [intOf]; omega
    · obtain rfl : k = ns := by omega
      obtain ⟨ov, pv, oes, pes, hG⟩ := HG.out
      have HFl := Lib.hid (flush_any (fragE w F) wr gg ov pv _ _ oes pes hG Hll.out)
      have Htl : Hid ((Val.tst l k).1 ++ (Val.tst l k).2 = Val.tidy l) := by
        show _ = _
        unfold Val.tst Val.tidy
        rw [List.take_of_length_le (by rw [Hm.out]; omega)]
      rw [Htl.out] at HFl
      clear hG HG HI hlt Hll
      go_wp2_with fail
      refine HFl.out.mono ?_
      rintro e w2 ⟨rfl, hb2, ov2, oes2, hG2, _⟩
      have Hb2 : Hid (Below w.heap.size w w2) := Hbw.out.trans (hb2.mono Hgg.out)
      have HG2 := Lib.hid hG2
      obtain ⟨oa, oc, hov, hrow, hnc, hcm, hnil⟩ := own_slice hG2.oo
      subst hov
      have q0 := hG2.blk.cell (o := 0) rfl
      clear hG2 hb2 hrow hnc hcm hnil
      go_wp2_with fail
      go_ret
      refine ⟨oa, oes2.length, oc, oes2, rfl, FlatC.of_owns HG2.out.oo rfl (fun x hx => ?_) ?_, ESs.mono (belowE Hb2.out (fun _ h => .inl h)) HG2.out.ro, Hb2.out⟩
      · obtain ⟨i, hi, rfl⟩ := List.getElem_of_mem hx
        exact (HG2.out.ro.atS (by rw [← HG2.out.ro.len]; exact hi) hi).len
      · have HO := HG2.out.oo
        cases oa with
        | none => exact .inl rfl
        | some a =>
          right; intro hm
          have h1 := (HO.lt a.block rfl).1
          have h2 := HF.out a.block hm
          have := Hgg.out
          omega

end Go.Proofs.YtkldcjlkeblggaaDoor

/- invert.Steps, walked. -/
namespace Go.Proofs.YtkldcjlkeblggaaDoor
open Go.RowKit
open Val (V E)
set_option linter.unusedVariables false
set_option linter.unusedSimpArgs false

theorem Val.invS_take : ∀ (f : List Val.St) (k : Nat) (h : k < f.length), Val.invS (f.take (k + 1)) = Val.invS (f.take k) ++ [Val.invOne f[k]]
  | s :: r, 0, _ => by rw [List.take_succ_cons, Val.invS_one]; simp [Val.invS]
  | s :: r, k + 1, h => by
    rw [List.take_succ_cons, List.take_succ_cons, Val.invS_one, Val.invS_one, Val.invS_take r k (by simpa using h)]; rfl
theorem Val.eszS_mem : ∀ {l : List Val.St} {e : Val.St}, e ∈ l → Val.esz e.2.2.2 ≤ Val.eszS l
  | (k, c, v, x) :: r, e, h => by
    rw [Val.eszS]
    rcases List.mem_cons.1 h with rfl | h
    · simp only; omega
    · have := Val.eszS_mem h; omega
theorem infoES3 : (Tryd.prog.info? 55).map (fun i => (i.size, i.zero.map (fun z => z.cells.size))) = some (30, some 30) := by kernel_rfl
theorem sright_edit {s : Val.St} (h : Val.sRight s) (h4 : s.1 = 4) : Val.eright s.2.2.2 = true := by
  obtain ⟨k, c, v, x⟩ := s
  simp only at h4
  subst h4
  unfold Val.sRight Val.stepRight at h
  simp only [show ¬ ((4 : Int) = 1) by decide, show ¬ ((4 : Int) = 2 ∨ (4 : Int) = 3) by decide, if_true, if_false, Bool.and_eq_true, decide_eq_true_eq, Val.esome] at h
  exact h.2.2.2

set_option maxRecDepth 100000 in
set_option maxHeartbeats 1000000 in
theorem isteps_any (N : Nat) (ih : OfAt N) : StepsAt N := by
  intro F l v es w hF hsz hr hz hv hes
  obtain ⟨a1, c1, hv1, hc1, hc2, hcn⟩ := hv.len
  subst hv1
  have HV := Lib.hid hv
  have HE := Lib.hid hes
  have hel := hes.len
  have HF := Lib.hid hF
  have hok := ((Val.esteps_iff _ _ _).1 hr).1
  have HOK := Lib.hid (Val.okC_mem hok)
  have HNK := Lib.hid (Val.invS_right l 0 0 hok (fun h => by omega))
  have HZ := Lib.hid hz
  have HSZ := Lib.hid hsz
  have hll := Val.eszS_len l
  have HIL := Lib.hid (Val.invS_len l)
  obtain ⟨ns, hns⟩ : ∃ ns, ns = es.length := ⟨_, rfl⟩
  rw [← hns] at HV hc1 hel ⊢
  have Hn := Lib.hid hns.symm; have Hm := Lib.hid hel.symm
  have hb90 : ns ≤ 90000 := by omega
  clear hv hes hF hns hel hok hr hz hsz hll
  obtain ⟨B, hB⟩ : ∃ B, B = w.heap.size := ⟨_, rfl⟩
  have HBq := Lib.hid hB
  clear hB
  go_enter Tryd.func45, Tryd.ntmps45
  go_wp2_with fail
  go_loopw [3, 8] (fun u i wr => ∃ (k : Nat) (v : Value) (es' : List (List Value)), k ≤ ns ∧ v = u ∧ i = .int .i64 k ∧ Hid (RowR B 55 30 F (fun h es => ESs h (Val.invS (l.take k)) es) wr v es' ∧ es'.length = k) ∧ Hid (Below B w wr)) (fun _ i _ => ns - (intOf i).toNat)
  case atStart => exact ⟨0, _, [], Nat.zero_le _, rfl, rfl, ⟨RowR.nil (fun h => by simp [Val.invS, ESs]), rfl⟩, Below.refl _ _⟩
  case round =>
    obtain ⟨k, v, es', hkn, rfl, rfl, HI, HB⟩ := hrel
    have Hbw : Hid (Below w.heap.size w wr) := by have h := HB.out; rw [HBq.out] at h; exact h
    have HFl : Hid (∀ j, some j ∈ F → j < B) := fun j hj => by rw [HBq.out]; exact HF.out j hj
    by_cases hlt : k < ns
    · have hks : k < es.length := by rw [Hn.out]; exact hlt
      have hkl : k < l.length := by rw [Hm.out]; exact hlt
      obtain ⟨b0, o0, hb0, hidx, hcell⟩ := FlatC.at (n := ns) (cap := c1) (a := a1) (HV.out.mono (fragE_le _ _)) (by decide) (i := k) hks Tryd.underlying29 sizeES
      have hr : wr.rangeAt b0 o0 es[k] := range_below hcell Hbw.out hb0
      have HS := Lib.hid (HE.out.atS hkl hks)
      have HLs := Lib.hid HS.out.len
      have HOs := Lib.hid HS.out.one
      have HT := Lib.hid (Val.invS_take l k hkl)
      have HLes := Lib.hid HI.out.2
      have hBs : B ≤ wr.heap.size := by rw [HBq.out]; exact HB.out.size
      have HK := Lib.hid (fun (wx : World) (hb : Below wr.heap.size wr wx) => istep_any N ih (v.ownBlock :: F) l[k] es[k] wx (fun j hj => by
          rcases List.mem_cons.1 hj with hj | hj
          · exact Nat.lt_of_lt_of_le (HI.out.1.own.lt j hj.symm).2 hb.size
          · exact Nat.lt_of_lt_of_le (HFl.out j hj) (Nat.le_trans hBs hb.size)) (HSZ.out _ (List.getElem_mem hkl)) (sright_edit (HOK.out _ (List.getElem_mem hkl))) (Nat.le_trans (Val.eszS_mem (List.getElem_mem hkl)) HZ.out)
        (HS.out.mono (belowE (Hbw.out.trans (hb.mono Hbw.out.size)) (fun j hj => by
          rcases List.mem_cons.1 hj with hj | hj
          · right; have := HI.out.1.ge j hj.symm; have := HBq.out; omega
          · exact .inl hj))))
      clear hcell
      generalize l[k] = st at *
      generalize es[k] = sc at *
      go_wp2_with (first
        | (refine wpList_load_seg rfl 55 _ rfl _ _ rfl _ _ (by assumption) Tryd.underlying55 rfl ?_ ?_; (· exact infoES.trans (congrArg some HLs.out.symm)))
        | (refine wpList_alloc_lay rfl 55 rfl zES zeroES ?_; (intro w4 g7 hg7 hB7 hb4; clear hr))
        | (refine wpList_store_all rfl 55 _ _ rfl _ _ rfl rfl zES (by assumption) ?_ ?_ ?_ ?_; (· exact infoES.trans (congrArg some HLs.out.symm)); (· exact HLs.out); (· exact HOs.out); (intro w5 hB9 hgr5; have hb5 := Below.grown hb4 hgr5 hb4.size (fun _ e => by cases e; exact hg7); have hr := hB9.whole; clear hb4 hgr5 hB7))
        | (go_at_call 61; (with_reducible refine (HK.out _ hb5).mono ?_); rintro e w6 ⟨cs, rfl, hy, hb6⟩; have hb56 := hb5.trans (hb6.mono hb5.size); have HY := Lib.hid hy; have HLc : Hid (cs.length = 30) := hy.len; have H6 := Lib.hid (HI.out.1.below (fun _ _ hle h => ESs.mono hle h) hb56); have Hb6 : Hid (Below B w w6) := HB.out.trans (hb56.mono hBs); clear hy hb6 hr hb5 hg7 hB9 hidx hb56)
        | (refine wpList_buildSlice1 rfl 29 55 _ rfl cs (.agg cs.toArray) rfl Tryd.underlying29 (by rw [HLc.out]; exact infoES3) (by rw [HLc.out]; decide) (by rw [HLc.out]; decide) rfl ?_)
        | (at_builtin; refine wpList_append_one T_ES rfl _ _ rfl (fun h es => ESs h (Val.invS (l.take (k + 1))) es) cs rfl H6.out rfl HLc.out HY.out.one (by rw [HLes.out]; omega) (by rw [HBq.out]; exact Hb6.out.size) (fun h' hle => by rw [HT.out]; exact ESs.append (ESs.mono hle H6.out.rd) (.single (StR.mono hle HY.out))) ?_; (intro v8 w8 h8 hb8 hg8 _; have H8 := Lib.hid h8; have Hb8 : Hid (Below B w w8) := Hb6.out.trans hb8; clear h8 hb8 hg8)))
      go_roundw
      case rel => exact ⟨k + 1, v8, _, by omega, rfl, by go_num, ⟨H8.out, by rw [List.length_append, HLes.out]; rfl⟩, Hb8.out⟩
      case measure => simp [intOf]; omega
    · obtain rfl : k = ns := by omega
      have HV5 : Hid (FlatC 30 (fragE wr F) v es') := HI.out.1.flat HFl.out
      have HS5 : Hid (ESs (fragE wr F) (Val.invS l) es') := by
        have h : ESs (fragE wr F) (Val.invS (l.take k)) es' := HI.out.1.read (fun _ _ hle h => ESs.mono hle h)
        rw [List.take_of_length_le (by rw [Hm.out]; omega)] at h
        exact h
      have HTd := Lib.hid (tidy_any F (Val.invS l) v es' wr (fun j hj => Nat.lt_of_lt_of_le (HF.out j hj) Hbw.out.size) HNK.out (by rw [HIL.out, Hm.out]; exact hb90) HV5.out HS5.out)
      clear HI hlt
      go_wp2_with fail
      refine HTd.out.mono ?_
      rintro e w2 ⟨a, n, c, es2, rfl, h1, h2, h3⟩
      go_wp2_with fail
      go_ret
      exact ⟨a, n, c, es2, rfl, h1, h2, Hbw.out.trans (h3.mono Hbw.out.size)⟩

end Go.Proofs.YtkldcjlkeblggaaDoor
