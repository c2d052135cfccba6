/- compose.pair for all right edits. -/
import Derived.Test.YtlmbcoecipbblaaGreatDoorEC4
import Derived.Test.YtlmbcoecipbblaaGreatDoorEC5
import Derived.Test.YtlmbcoecipbblaaGreatDoorEC8
set_option maxRecDepth 100000
set_option maxHeartbeats 4000000
set_option linter.unusedVariables false
set_option linter.unusedSimpArgs false
namespace Go.Proofs.YtlmbcoecipbblaaGreatDoor
open Go.RowKit
open Val (V E right cmp eright ado Res avalue esm esmF esmS esmK vmx esz eszF eszS eszK e0 swapE swapF PairP inv)
theorem Val.eszF_lt : ∀ {f : List (Int × E)}, ∀ x ∈ f, esz x.2 + 1 ≤ eszF f
 | (n, e) :: r, x, hx => by
  rw [eszF]
  rcases List.mem_cons.1 hx with rfl | hx
  ·show esz e + 1 ≤ _; omega
  ·have := Val.eszF_lt x hx; omega
theorem Val.eszK_lt : ∀ {f : List (V × E)}, ∀ x ∈ f, esz x.2 + 1 ≤ eszK f
 | (n, e) :: r, x, hx => by
  rw [eszK]
  rcases List.mem_cons.1 hx with rfl | hx
  ·show esz e + 1 ≤ _; omega
  ·have := Val.eszK_lt x hx; omega
theorem Val.eszS_lt : ∀ {f : List Stp}, ∀ x ∈ f, esz x.2.2.2 + 1 ≤ eszS f
 | s :: r, x, hx => by
  rw [eszS_cons]
  rcases List.mem_cons.1 hx with rfl | hx
  ·omega
  ·have := Val.eszS_lt x hx; omega
theorem book_apart (er : Errs) (d e : E) (hg : CoGood d e) {f0 g0 : V × E} {fs0 gs0 : List (V × E)} (hdk : d.keys = f0 :: fs0) (hek : e.keys = g0 :: gs0) (hkk : ¬ f0.1.kind = g0.1.kind) (c : List DV) (ea : DV) (HR : EEr er (swapF d e Val.v0) c ea) (dc ec : List DV) (hd : dc = encE d) (he : ec = encE e) (fr : List Nat) :
  PRun Tryz.prog (gE er) 67 [.agg (cellsP 21 dc), .agg (cellsP 21 ec)] [] fr (.tup [.agg (cellsP 21 c), .d fun _ => ea]) [] := by
 obtain ⟨fl0, hfl0⟩ : ∃ l, l = encEK d.keys := ⟨_, rfl⟩
 obtain ⟨gl0, hgl0⟩ : ∃ l, l = encEK e.keys := ⟨_, rfl⟩
 have D20 : cellAt dc 20 = .sl fl0 := by rw [hd, hfl0]; exact (cE d).2.2.2.2.2.2.2.2
 have E20 : cellAt ec 20 = .sl gl0 := by rw [he, hgl0]; exact (cE e).2.2.2.2.2.2.2.2
 obtain ⟨qc, fl, hq1, hqc, hfl, l22, k0, k1, h22, kv, ke⟩ := key_cells (f := f0) (fs := fs0) (hfl0.trans (by rw [hdk]))
 obtain ⟨rc, gl, hq2, hrc, hgl, m22, j0, j1, i22, jv, je⟩ := key_cells (f := g0) (fs := gs0) (hgl0.trans (by rw [hek]))
 obtain ⟨c', ev', hR', H⟩ := apart_run er hd he hg.rd (Val.inv_esm d hg.md) hg.me (by have := hg.sz; omega)
 obtain ⟨rfl, rfl⟩ := re_one HR hR'
 refine PRun.pure (xs := [.agg (cellsP 21 dc), .agg (cellsP 21 ec)]) (r1 := .tup [.agg (cellsP 21 c), .d fun _ => ea]) tI_ok (by kernel_rfl) Tryz.func67 rfl rfl (by kernel_rfl) ?_
 repeat with_reducible refine jR (J4 (cellQ D20) (cellQ E20) hq1 hq2) ?_
 (with_reducible refine jI qc ?_ ?_); exact rfl
 repeat with_reducible refine jR (J4 (cellQ D20) (cellQ E20) l22 hq2) ?_
 (with_reducible refine jI rc ?_ ?_); exact rfl
 repeat with_reducible refine jR (J6 (cellQ D20) (cellQ E20) m22 (cellQ k0) (cellQ j0) hkk) ?_
 (with_reducible apply hCall); exact H _; with_reducible refine jR trivial ?_
 repeat with_reducible refine jR trivial ?_
 with_reducible refine jE trivial ?_
 trivial
theorem Val.eparts {d : E} (h : eright d = true) : d.kind = 0 ∨ d.kind = 1 ∨ (d.kind = 2 ∧ Val.allF d.fields) ∨ (d.kind = 3 ∧ Val.allS d.steps) ∨ (d.kind = 4 ∧ Val.allK d.keys ∧ d.keys ≠ []) := by
 obtain ⟨k, o, n, f, r, ro, rn, s, ks⟩ := d
 have hp := (Val.eright_parts h).2
 show k = 0 ∨ k = 1 ∨ (k = 2 ∧ Val.allF f) ∨ (k = 3 ∧ Val.allS s) ∨ (k = 4 ∧ Val.allK ks ∧ ks ≠ [])
 rcases hp with h0 | h0 | h0 | h0 | h0
 ·exact .inl h0
 ·exact .inr (.inl h0.1)
 ·exact .inr (.inr (.inl h0))
 ·exact .inr (.inr (.inr (.inl h0)))
 ·refine .inr (.inr (.inr (.inr ⟨h0.1, h0.2, fun e => ?_⟩)))
  rw [eright, Bool.and_eq_true] at h
  have h2 := h.2
  rw [h0.1, e] at h2
  simp at h2
theorem CoGood.sub {d e x y : E} (h : CoGood d e) (h1 : eright x = true) (h2 : eright y = true) (h3 : esm x) (h4 : esm y) (h5 : esz x ≤ esz d) (h6 : esz y ≤ esz e) : CoGood x y := ⟨h1, h2, h3, h4, by have := h.sz; omega⟩
theorem co_all (er : Errs) : ∀ (n : Nat) (d e : E), esz d < n → CoGood d e → CoE er 17 d e := by
 intro n
 induction n with
 | zero => intro d e h; exact absurd h (Nat.not_lt_zero _)
 | succ n ih =>
  intro d e hlt hg
  have pd := Val.esz_parts d; have pe := Val.esz_parts e; have hsz := hg.sz
  have ed := Val.eparts hg.rd; have ee := Val.eparts hg.re
  refine pair_run er d e hg (fun k1 k2 => ?_) (fun k1 k2 => ?_) (fun k1 k2 => ?_)
  ·have a1 : Val.allF d.fields := by rcases ed with h | h | h | h | h <;> first | (exact h.2) | (rw [k1] at h; exact absurd h.1 (by decide)) | (rw [k1] at h; exact absurd h (by decide))
   have a2 : Val.allF e.fields := by rcases ee with h | h | h | h | h <;> first | (exact h.2) | (rw [k2] at h; exact absurd h.1 (by decide)) | (rw [k2] at h; exact absurd h (by decide))
   have m1 : esmF d.fields := by have := hg.md; obtain ⟨k, o, n, f, r, ro, rn, s, ks⟩ := d; rw [esm] at this; exact this.2.1
   have m2 : esmF e.fields := by have := hg.me; obtain ⟨k, o, n, f, r, ro, rn, s, ks⟩ := e; rw [esm] at this; exact this.2.1
   have hpk : ∀ f ∈ d.fields, ∀ g ∈ e.fields, CoE er 17 f.2 g.2 := fun f hf g hg' => by
    have z1 := Val.eszF_lt f hf; have z2 := Val.eszF_lt g hg'
    exact ih f.2 g.2 (by omega) (hg.sub (a1 f hf).2 (a2 g hg').2 (Val.esmF_at m1 f hf) (Val.esmF_at m2 g hg') (by omega) (by omega))
   obtain ⟨c, ev, hE⟩ := re_ex er (Val.intoA d e (intoL (prC er 17) d.fields e.fields []))
   exact ⟨_, c, ev, intoL_pair hg.md hg.me _ _ _ (.start hg.md hg.me hpk), fun h => (by rw [k1] at h; cases h), hE, fun dc ec hd he fr => into_run er d e hg _ rfl hpk c ev hE dc ec hd he fr⟩
  ·have a1 : Val.allS d.steps := by rcases ed with h | h | h | h | h <;> first | (exact h.2) | (rw [k1] at h; exact absurd h.1 (by decide)) | (rw [k1] at h; exact absurd h (by decide))
   have a2 : Val.allS e.steps := by rcases ee with h | h | h | h | h <;> first | (exact h.2) | (rw [k2] at h; exact absurd h.1 (by decide)) | (rw [k2] at h; exact absurd h (by decide))
   have m1 : esmS d.steps := by have := hg.md; obtain ⟨k, o, n, f, r, ro, rn, s, ks⟩ := d; rw [esm] at this; exact this.2.2.1
   have m2 : esmS e.steps := by have := hg.me; obtain ⟨k, o, n, f, r, ro, rn, s, ks⟩ := e; rw [esm] at this; exact this.2.2.1
   have c1 : Cur d.steps 0 := ⟨fun s hs => ⟨a1 s hs, Val.esmS_at m1 s hs⟩, Int.le_refl _, .inl rfl⟩
   have c2 : Cur e.steps 0 := ⟨fun s hs => ⟨a2 s hs, Val.esmS_at m2 s hs⟩, Int.le_refl _, .inl rfl⟩
   have hz : eszS d.steps + eszS e.steps ≤ 30000 := by have h3 := pd.2.2.2.1; have h4 := pe.2.2.2.1; omega
   have hC : CRow er d e d.steps 0 e.steps 0 [] := by
    refine ⟨fun s hs t ht s4 t4 => ?_, c1, c2, by rw [esmS]; trivial, by rw [eszS]; omega⟩
    have z1 := Val.eszS_lt s hs; have z2 := Val.eszS_lt t ht
    have h3 := pd.2.2.2.1; have h4 := pe.2.2.2.1
    have b1 : eright s.2.2.2 = true := by rcases a1 s hs with h | h | h | h <;> first | (exact h.2) | (rw [s4] at h; exact absurd h.1 (by decide))
    have b2 : eright t.2.2.2 = true := by rcases a2 t ht with h | h | h | h <;> first | (exact h.2) | (rw [t4] at h; exact absurd h.1 (by decide))
    exact ih _ _ (by omega) (hg.sub b1 b2 (Val.esmS_at m1 s hs) (Val.esmS_at m2 t ht) (by omega) (by omega))
   obtain ⟨c, ev, hE⟩ := re_ex er (rowA (rowL (prC er 17) (leftC d.steps 0 + leftC e.steps 0 + 1) d.steps 0 e.steps 0 []))
   exact ⟨_, c, ev, rowL_pair hz _ _ _ _ _ _ hC, fun h => (by rw [k1] at h; cases h), hE, fun dc ec hd he fr => row_run er d e hg _ (Nat.lt_succ_self _) _ rfl hC c ev hE dc ec hd he fr⟩
  ·have a1 : Val.allK d.keys ∧ d.keys ≠ [] := by rcases ed with h | h | h | h | h <;> first | (exact h.2) | (rw [k1] at h; exact absurd h.1 (by decide)) | (rw [k1] at h; exact absurd h (by decide))
   have a2 : Val.allK e.keys ∧ e.keys ≠ [] := by rcases ee with h | h | h | h | h <;> first | (exact h.2) | (rw [k2] at h; exact absurd h.1 (by decide)) | (rw [k2] at h; exact absurd h (by decide))
   have m1 : esmK d.keys := by have := hg.md; obtain ⟨k, o, n, f, r, ro, rn, s, ks⟩ := d; rw [esm] at this; exact this.2.2.2
   have m2 : esmK e.keys := by have := hg.me; obtain ⟨k, o, n, f, r, ro, rn, s, ks⟩ := e; rw [esm] at this; exact this.2.2.2
   have hpk : ∀ f ∈ d.keys, ∀ g ∈ e.keys, CoE er 17 f.2 g.2 := fun f hf g hg' => by
    have z1 := Val.eszK_lt f hf; have z2 := Val.eszK_lt g hg'
    exact ih f.2 g.2 (by omega) (hg.sub (a1.1 f hf).2 (a2.1 g hg').2 (Val.esmK_mem m1 f hf) (Val.esmK_mem m2 g hg') (by omega) (by omega))
   obtain ⟨f0, fs0, hdk⟩ := List.exists_cons_of_ne_nil a1.2
   obtain ⟨g0, gs0, hek⟩ := List.exists_cons_of_ne_nil a2.2
   by_cases hkk : f0.1.kind = g0.1.kind
   ·obtain ⟨c, ev, hE⟩ := re_ex er (Val.bookA (bookL (prC er 17) d.keys e.keys []))
    exact ⟨_, c, ev, bookL_pair _ _ _ (.start hg.md hg.me hpk), fun h => (by rw [k1] at h; cases h), hE, fun dc ec hd he fr => book_run er d e hg _ rfl hpk hdk hek hkk c ev hE dc ec hd he fr⟩
   ·obtain ⟨c, ev, hE⟩ := re_ex er (swapF d e Val.v0)
    exact ⟨_, c, ev, Val.swapF_pair d e _ (by rw [Val.vmx_v0]; exact Nat.zero_le _), fun h => (by rw [k1] at h; cases h), hE, fun dc ec hd he fr => book_apart er d e hg hdk hek hkk c ev hE dc ec hd he fr⟩
end Go.Proofs.YtlmbcoecipbblaaGreatDoor
