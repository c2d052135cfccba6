/- myers.behind: look, walked. -/
import Derived.Test.YtlilamlolnkboaaMyStep
import Derived.Maps.Range
namespace Go.Proofs.Ytlilamlolnkboaa
open Go.RowKit Go.WideShapes
open My (D Least Slid Ok U)
set_option linter.unusedVariables false

/-- 'look' under way: the struct in block b, its rows -/
structure LS (w : World) (b : Nat) (t : TypeId) (xs ys : List Int) (va vb vr : Value) (vals : List Value) (rows : List (List Int)) (E : List (Option Nat)) (wr : World) : Prop where
  hc : wr.heap[b]? = some (.cells #[va, vb, vr] t (0, 0))
  ho : wr.ownsRow w.heap.size 40 1 vr vals.length vals
  hd : Done (fragE wr (vr.ownBlock :: some b :: E)) vals rows
  ha : ListV IntR (fragE wr (vr.ownBlock :: some b :: E)) va xs
  hb : ListV IntR (fragE wr (vr.ownBlock :: some b :: E)) vb ys
  hg : w.grownBy wr (some b)
  hlt : b < w.heap.size

theorem LS.below {w wr w' : World} {b : Nat} {t : TypeId} {xs ys : List Int} {va vb vr : Value} {vals : List Value} {rows : List (List Int)} {E E' : List (Option Nat)} (h : LS w b t xs ys va vb vr vals rows E wr) (hb : Below wr.heap.size wr w')
    (hE : ∀ k, some k ∈ E' → some k ∈ E ∨ wr.heap.size ≤ k) : LS w b t xs ys va vb vr vals rows E' w' := by
  have hsz := h.hg.size
  have hlt := h.hlt
  have hf : FLe (fragE wr (vr.ownBlock :: some b :: E)) (fragE w' (vr.ownBlock :: some b :: E')) := belowE hb (fun k hk => by
    simp only [List.mem_cons] at hk ⊢
    rcases hk with e | e | e
    · exact .inl (.inl e)
    · exact .inl (.inr (.inl e))
    · rcases hE k e with h | h
      · exact .inl (.inr (.inr h))
      · exact .inr h)
  exact ⟨(hb.block b (by omega)).trans h.hc, owns_below h.ho hb, h.hd.mono hf, ListV.mono IntR.mono h.ha hf, ListV.mono IntR.mono h.hb hf, h.hg.trans (grown_of_below hb _), hlt⟩

theorem LS.bv {w wr : World} {b : Nat} {t : TypeId} {xs ys : List Int} {va vb vr : Value} {vals : List Value} {rows : List (List Int)} {E : List (Option Nat)} (h : LS w b t xs ys va vb vr vals rows E wr) : BV (frag wr) b xs ys rows va vb vr := by
  have hf := fragE_le wr (vr.ownBlock :: some b :: E)
  have hd := h.hd.mono hf
  refine ⟨⟨t, h.hc⟩, ListV.mono IntR.mono h.ha hf, ListV.mono IntR.mono h.hb hf, ?_⟩
  have ho := h.ho
  rw [hd.1] at ho
  have := ListV.of_owns (R := ListV IntR) (E := []) ho (.inr (by simp)) (fun i hv hx => by rw [fragE_nil]; exact hd.2 i hv hx)
  rw [fragE_nil] at this
  exact this

/-- a write to the row under way -/
theorem LS.store {w wr w' : World} {b g : Nat} {t : TypeId} {xs ys : List Int} {va vb vr : Value} {vals : List Value} {rows : List (List Int)} {E : List (Option Nat)} (h : LS w b t xs ys va vb vr vals rows E wr) (hg : wr.grownBy w' (some g)) (hge : w.heap.size ≤ g)
    (hne : vr.ownBlock ≠ some g) (hE : some g ∈ E) : LS w b t xs ys va vb vr vals rows E w' := by
  have hlt := h.hlt
  have hsz := h.hg.size
  have hf : FLe (fragE wr (vr.ownBlock :: some b :: E)) (fragE w' (vr.ownBlock :: some b :: E)) := grownE hg (.inr (by simp [hE])) (fun k hk => .inl hk)
  refine ⟨(hg.block b (by omega) (fun e => by cases e; omega)).trans h.hc, h.ho.kept hg (.inr hne), h.hd.mono hf, ListV.mono IntR.mono h.ha hf, ListV.mono IntR.mono h.hb hf, ?_, hlt⟩
  exact World.grownBy.andThen h.hg hg (fun j e => by cases e; exact .inl hge)

theorem heap_set_same {w : World} {b j : Nat} {cur : Array Value} {t : TypeId} {v : Value} (h : w.heap[b]? = some (.cells cur t (0, 0))) : (w.setCell ⟨b, j, none⟩ v).heap[b]? = some (.cells (cur.setIfInBounds j v) t (0, 0)) :=
  heap_setCell_same w b j cur t v h

/-- one more row, empty as yet -/
theorem LS.row {w wr w2 : World} {b : Nat} {t : TypeId} {xs ys : List Int} {va vb vr v' : Value} {vals : List Value} {rows : List (List Int)} {E : List (Option Nat)} (h : LS w b t xs ys va vb vr vals rows E wr)
    (h1 : w2.ownsRow w.heap.size 40 1 v' (vals.length + 1) (vals ++ [.slice none 0 0])) (h2 : wr.grownBy w2 vr.ownBlock) (h3 : v'.ownBlock = vr.ownBlock ∨ v'.ownBlock = some (wr.heap.size + 1)) :
    LS w b t xs ys va vb v' (vals ++ [.slice none 0 0]) (rows ++ [[]]) E (w2.setCell ⟨b, 2, none⟩ v') := by
  have hlt := h.hlt
  have hsz := h.hg.size
  have hneb : some b ≠ vr.ownBlock := fun e => by have := own_ge h.ho b e.symm; omega
  have hc2 := (h2.block b (by omega) hneb).trans h.hc
  have hg2 := grown_setCell w2 ⟨b, 2, none⟩ v'
  have hneb' : v'.ownBlock ≠ some b := by
    intro e
    have := own_ge h1 b e
    omega
  have hf : FLe (fragE wr (vr.ownBlock :: some b :: E)) (fragE (w2.setCell ⟨b, 2, none⟩ v') (v'.ownBlock :: some b :: E)) := by
    have f1 : FLe (fragE wr (vr.ownBlock :: some b :: E)) (fragE w2 (v'.ownBlock :: some b :: E)) := grownE h2 (.inr (by simp)) (fun k hk => by
      simp only [List.mem_cons] at hk ⊢
      rcases hk with e | e | e
      · rcases h3 with h3 | h3
        · exact .inl (.inl (e.trans h3))
        · right; rw [h3] at e; cases e; omega
      · exact .inl (.inr (.inl e))
      · exact .inl (.inr (.inr e)))
    exact f1.trans (grownE hg2 (.inr (by simp)) (fun k hk => .inl hk))
  refine ⟨?_, ?_, Done.snoc (h.hd.mono hf) (ListV.nil _ _), ListV.mono IntR.mono h.ha hf, ListV.mono IntR.mono h.hb hf, ?_, hlt⟩
  · rw [heap_set_same hc2]; rfl
  · rw [List.length_append]
    exact h1.kept hg2 (.inr hneb')
  · refine World.grownBy.trans (World.grownBy.andThen h.hg h2 (fun j e => .inl (own_ge h.ho j e))) ?_
    exact hg2

/-- the row under way is put in its place -/
theorem LS.put {w wr : World} {b gv cap g m : Nat} {t : TypeId} {xs ys : List Int} {va vb : Value} {vals : List Value} {rows : List (List Int)} {row : List Int}
    (h : LS w b t xs ys va vb (.slice (some ⟨gv, 0, none⟩) (vals.length + 1) cap) (vals ++ [.slice none 0 0]) (rows ++ [[]]) [some g] wr)
    (hrow : wr.ownsRow w.heap.size 3 1 (.slice (some ⟨g, 0, none⟩) m m) m (intVals row)) :
    LS w b t xs ys va vb (.slice (some ⟨gv, 0, none⟩) (vals.length + 1) cap) (vals ++ [.slice (some ⟨g, 0, none⟩) m m]) (rows ++ [row]) [] (wr.setCell ⟨gv, vals.length, none⟩ (.slice (some ⟨g, 0, none⟩) m m)) := by
  have hlt := h.hlt
  have hsz := h.hg.size
  have ho := h.ho
  rw [List.length_append] at ho
  obtain ⟨h1, h2⟩ := ho.stored vals.length (.slice (some ⟨g, 0, none⟩) m m)
  rw [List.set_append_right _ _ (Nat.le_refl _), Nat.sub_self] at h1
  have hgv : w.heap.size ≤ gv := own_ge h.ho gv rfl
  have hap := owns_apart hrow h.ho types_ne
  have hgg : gv ≠ g := by
    rcases hap with e | e
    · simp [Value.ownBlock] at e
    · intro e2; apply e; rw [e2]; rfl
  have hlen : row.length = m := by have := hrow.1; simpa [intVals] using this
  have hf : FLe (fragE wr ((Value.slice (some ⟨gv, 0, none⟩) (vals.length + 1) cap).ownBlock :: some b :: [some g])) (fragE (wr.setCell ⟨gv, vals.length, none⟩ (.slice (some ⟨g, 0, none⟩) m m)) ((Value.slice (some ⟨gv, 0, none⟩) (vals.length + 1) cap).ownBlock :: some b :: [])) :=
    grownE h2 (.inr (by simp [Value.ownBlock])) (fun k hk => by
      simp only [List.mem_cons, List.not_mem_nil, or_false] at hk ⊢
      rcases hk with e | e
      · exact .inl (.inl e)
      · exact .inl (.inr (.inl e)))
  refine ⟨(h2.block b (by omega) (fun e => by cases e; omega)).trans h.hc, ?_, Done.snoc (h.hd.front.mono hf) ?_, ListV.mono IntR.mono h.ha hf, ListV.mono IntR.mono h.hb hf, World.grownBy.andThen h.hg h2 (fun j e => by cases e; exact .inl hgv), hlt⟩
  · rw [List.length_append]; exact h1
  · have hrow2 := hrow.kept h2 (.inr (by simp [Value.ownBlock]; omega))
    rw [← hlen] at hrow2
    have := ListV.of_owns (R := IntR) (E := [some gv, some b]) hrow2 (.inr (by
      simp only [Value.ownBlock, List.mem_cons, List.not_mem_nil, or_false, Option.some.injEq]
      have := own_ge hrow g rfl
      omega)) (fun i hv hx => by simp [IntR, intVals])
    rw [hlen] at this
    exact this

end Go.Proofs.Ytlilamlolnkboaa
