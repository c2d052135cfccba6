/- The rower of apply: put, walked. -/
import Derived.Test.YtkldcjlkeblggaaDoorDRow
import Derived.Deep.AppendLies
import Derived.Deep.RegionLaw
import Derived.Deep.DeepCutAuto
namespace Go.Proofs.YtkldcjlkeblggaaDoor
open Go.RowKit
open Val (V E cmp right eright esm v0 Res ado get find withV putV)
set_option linter.unusedVariables false
set_option linter.unusedSimpArgs false
variable {Fx : List (Option Nat)}

theorem own_neq {w : World} {gr g n c : Nat} {e : TypeId} {s : Nat} {xs : List Value} (h : w.ownsRow (gr + 1) e s (.slice (some ⟨g, 0, none⟩) n c) n xs) : ¬ g = gr := fun e => by
  have := (h.lt g rfl).1; omega
theorem own_neq' {w : World} {gr g n c : Nat} {e : TypeId} {s : Nat} {xs : List Value} (h : w.ownsRow (gr + 1) e s (.slice (some ⟨g, 0, none⟩) n c) n xs) : ¬ gr = g := fun e => own_neq h e.symm
/-- an element's zero behind an append, cell by cell -/
theorem own_elem {w : World} {base g n c : Nat} {xs : List Value} (h : w.ownsRow base 27 7 (.slice (some ⟨g, 0, none⟩) (n + 1) c) (n + 1) (xs ++ zV)) (hx : xs.length = n * 7) :
    (w.cell? ⟨g, n * 7, none⟩ = some (.int .i64 0) ∧ w.cell? ⟨g, n * 7 + 1, none⟩ = some (.int .u64 0) ∧ w.cell? ⟨g, n * 7 + 2, none⟩ = some (.string ⟨#[]⟩) ∧ w.cell? ⟨g, n * 7 + 3, none⟩ = some (.slice none 0 0) ∧ w.cell? ⟨g, n * 7 + 4, none⟩ = some (.string ⟨#[]⟩) ∧ w.cell? ⟨g, n * 7 + 5, none⟩ = some (.slice none 0 0) ∧ w.cell? ⟨g, n * 7 + 6, none⟩ = some (.slice none 0 0)) ∧
    (w.frozen? ⟨g, n * 7, none⟩ = false ∧ w.frozen? ⟨g, n * 7 + 1, none⟩ = false ∧ w.frozen? ⟨g, n * 7 + 2, none⟩ = false ∧ w.frozen? ⟨g, n * 7 + 3, none⟩ = false ∧ w.frozen? ⟨g, n * 7 + 4, none⟩ = false ∧ w.frozen? ⟨g, n * 7 + 5, none⟩ = false ∧ w.frozen? ⟨g, n * 7 + 6, none⟩ = false) := by
  have hc : ∀ j u, zV[j]? = some u → w.cell? ⟨g, n * 7 + j, none⟩ = some u := fun j u hu => by
    have := h.cells (g := g) rfl (n * 7 + j) u (by rw [List.getElem?_append_right (by omega), hx, Nat.add_sub_cancel_left]; exact hu)
    rwa [Addr.add_none, Nat.zero_add] at this
  have hf : ∀ j, w.frozen? ⟨g, j, none⟩ = false := fun j => by
    rcases h.2 with ⟨hn, _⟩ | ⟨g', cap, cur, hv, hb, hg, _⟩
    · cases hn
    · cases hv
      exact frozen_of_row w g j cur _ hg
  exact ⟨⟨hc 0 _ rfl, hc 1 _ rfl, hc 2 _ rfl, hc 3 _ rfl, hc 4 _ rfl, hc 5 _ rfl, hc 6 _ rfl⟩, ⟨hf _, hf _, hf _, hf _, hf _, hf _, hf _⟩⟩

/-- one cell of an own row stored over -/
theorem own_setC {w : World} {base g n c i s : Nat} {e : TypeId} {xs : List Value} {u : Value} (h : w.ownsRow base e s (.slice (some ⟨g, 0, none⟩) n c) n xs) : (w.setCell ⟨g, i, none⟩ u).ownsRow base e s (.slice (some ⟨g, 0, none⟩) n c) n (xs.set i u) := by
  refine ⟨by rw [List.length_set]; exact h.1, ?_⟩
  rcases h.2 with ⟨hn, _⟩ | ⟨g', cap, cur, hv, hb, hg, hnc, hcm, hcs, htake⟩
  · cases hn
  · cases hv
    refine .inr ⟨g, c, cur.setIfInBounds i u, rfl, hb, heap_setCell_same w g i cur e u hg, hnc, hcm, by simpa using hcs, ?_⟩
    rw [Array.toList_setIfInBounds, List.take_set, htake]
theorem own_other {w : World} {base g n c s : Nat} {a : Addr} {e : TypeId} {xs : List Value} {u : Value} (h : w.ownsRow base e s (.slice (some ⟨g, 0, none⟩) n c) n xs) (hne : g ≠ a.block) : (w.setCell a u).ownsRow base e s (.slice (some ⟨g, 0, none⟩) n c) n xs :=
  h.kept (grown_setCell w a u) (.inr (fun e => by simp [Value.ownBlock] at e; exact hne e))
def elset (w : World) (g k : Nat) (u0 u1 u2 u3 u4 u5 u6 : Value) : World :=
  ((((((w.setCell ⟨g, k, none⟩ u0).setCell ⟨g, k + 1, none⟩ u1).setCell ⟨g, k + 2, none⟩ u2).setCell ⟨g, k + 3, none⟩ u3).setCell ⟨g, k + 4, none⟩ u4).setCell ⟨g, k + 5, none⟩ u5).setCell ⟨g, k + 6, none⟩ u6
theorem set_elem {xs : List Value} {a0 a1 a2 a3 a4 a5 a6 u0 u1 u2 u3 u4 u5 u6 : Value} {k : Nat} (h : xs.length = k) :
    (((((((xs ++ [a0, a1, a2, a3, a4, a5, a6]).set k u0).set (k + 1) u1).set (k + 2) u2).set (k + 3) u3).set (k + 4) u4).set (k + 5) u5).set (k + 6) u6 = xs ++ [u0, u1, u2, u3, u4, u5, u6] := by
  subst h
  simp [List.set_append_right]
theorem elset_own {w : World} {base g n c : Nat} {xs : List Value} {u0 u1 u2 u3 u4 u5 u6 : Value} (h : w.ownsRow base 27 7 (.slice (some ⟨g, 0, none⟩) (n + 1) c) (n + 1) (xs ++ zV)) (hx : xs.length = n * 7) :
    (elset w g (n * 7) u0 u1 u2 u3 u4 u5 u6).ownsRow base 27 7 (.slice (some ⟨g, 0, none⟩) (n + 1) c) (n + 1) (xs ++ [u0, u1, u2, u3, u4, u5, u6]) := by
  have := own_setC (i := n * 7 + 6) (u := u6) (own_setC (i := n * 7 + 5) (u := u5) (own_setC (i := n * 7 + 4) (u := u4) (own_setC (i := n * 7 + 3) (u := u3) (own_setC (i := n * 7 + 2) (u := u2) (own_setC (i := n * 7 + 1) (u := u1) (own_setC (i := n * 7) (u := u0) h))))))
  unfold elset
  rwa [show zV = [.int .i64 0, .int .u64 0, .string ⟨#[]⟩, .slice none 0 0, .string ⟨#[]⟩, .slice none 0 0, .slice none 0 0] from rfl, set_elem hx] at this
theorem grown_trans {a b c : World} {X : Option Nat} (h1 : a.grownBy b X) (h2 : b.grownBy c X) : a.grownBy c X :=
  ⟨h2.os.trans h1.os, h2.tape.trans h1.tape, h2.output.trans h1.output, Nat.le_trans h1.size h2.size, fun k hk hne => (h2.block k (Nat.lt_of_lt_of_le hk h1.size) hne).trans (h1.block k hk hne)⟩
theorem elset_grown (w : World) (g k : Nat) (u0 u1 u2 u3 u4 u5 u6 : Value) : w.grownBy (elset w g k u0 u1 u2 u3 u4 u5 u6) (some g) := by
  unfold elset
  exact grown_trans (grown_trans (grown_trans (grown_trans (grown_trans (grown_trans (grown_setCell _ ⟨g, _, none⟩ _) (grown_setCell _ ⟨g, _, none⟩ _)) (grown_setCell _ ⟨g, _, none⟩ _)) (grown_setCell _ ⟨g, _, none⟩ _)) (grown_setCell _ ⟨g, _, none⟩ _)) (grown_setCell _ ⟨g, _, none⟩ _)) (grown_setCell _ ⟨g, _, none⟩ _)
theorem gen_world {Q : Exit → Act → World → Prop} {a : Act} {W : World} (h : ∀ F, F = W → Q .normal a F) : Q .normal a W := h W rfl
theorem grown_trans' {a b : World} {o : Obj} {X : Option Nat} (h : ((a.alloc o).drew).grownBy b X) : a.grownBy b X :=
  grown_trans (World.grownBy_alloc a o X) ⟨h.os, h.tape, h.output, h.size, h.block⟩
/-- the rower behind a put, in either order of the two stores -/
theorem put_done {w w0 w2 : World} {gr n cap c2 c3 g2 : Nat} {av a2 : Option Addr} {l o : List V} {les oes : List (List Value)} {v : V} {u0 u1 u2 u3 u4 u5 u6 : Value} (hw : Below gr w w0) (H : RowAt Fx w0 gr av n cap (.slice a2 o.length c2) l o les oes)
    (hv : VR (fragE w0 (some gr :: (Value.slice a2 o.length c2).ownBlock :: Fx)) v [u0, u1, u2, u3, u4, u5, u6]) (hg : w0.grownBy w2 (Value.slice a2 o.length c2).ownBlock) (hat : (Value.slice a2 o.length c2).ownBlock = some g2 ∨ g2 = w0.heap.size + 1)
    (ho : w2.ownsRow (gr + 1) 27 7 (.slice (some ⟨g2, 0, none⟩) (o.length + 1) c3) (o.length + 1) (oes.flatten ++ zV)) (hx : oes.flatten.length = o.length * 7) (er : Errs) (F : World)
    (hF : F = ((elset w2 g2 (o.length * 7) u0 u1 u2 u3 u4 u5 u6).setCell ⟨gr, 1, none⟩ (.slice (some ⟨g2, 0, none⟩) (o.length + 1) c3)) ∨ F = (elset (w2.setCell ⟨gr, 1, none⟩ (.slice (some ⟨g2, 0, none⟩) (o.length + 1) c3)) g2 (o.length * 7) u0 u1 u2 u3 u4 u5 u6)) :
    StepPost er Fx w gr (.ok (l, o ++ [v])) (.returned .nilIface) F := by
  have hB2 : Blk w2 gr [.slice av n cap, .slice a2 o.length c2] := H.blk.grown hg H.own_ne
  have hne := own_neq ho
  have hne' := own_neq' ho
  have hgr := H.blk.lt
  have hle0 : FLe (fragE w0 (some gr :: (Value.slice a2 o.length c2).ownBlock :: Fx)) (fragE w2 (some gr :: some g2 :: Fx)) := grownE hg (.inr (by simp)) (fun k hk => by
    simp only [List.mem_cons] at hk ⊢
    rcases hk with hk | hk | hk
    · exact .inl (.inl hk)
    · rcases hat with h | h
      · left; right; left; rw [hk, h]
      · right; cases hk; omega
    · exact .inl (.inr (.inr hk)))
  have hb2 : Below gr w w2 := Below.grown hw hg (Nat.le_of_lt hgr) (fun k e => by have := (H.own.lt k e).1; omega)
  have hz : gr ≤ w2.heap.size := Nat.le_trans (Nat.le_of_lt hgr) hg.size
  have main : Blk F gr [.slice av n cap, .slice (some ⟨g2, 0, none⟩) (o.length + 1) c3] ∧ F.ownsRow (gr + 1) 27 7 (.slice (some ⟨g2, 0, none⟩) (o.length + 1) c3) (o.length + 1) (oes.flatten ++ [u0, u1, u2, u3, u4, u5, u6]) ∧ FLe (fragE w2 (some gr :: some g2 :: Fx)) (fragE F (some gr :: some g2 :: Fx)) ∧ Below gr w2 F := by
    rcases hF with hF | hF
    · have hO := elset_own (u0 := u0) (u1 := u1) (u2 := u2) (u3 := u3) (u4 := u4) (u5 := u5) (u6 := u6) ho hx
      have hG := elset_grown w2 g2 (o.length * 7) u0 u1 u2 u3 u4 u5 u6
      generalize elset w2 g2 (o.length * 7) u0 u1 u2 u3 u4 u5 u6 = W at *
      have hBW : Blk W gr [.slice av n cap, .slice a2 o.length c2] := hB2.grown hG (fun e => hne' (by simpa using e))
      have hS := grown_setCell W ⟨gr, 1, none⟩ (.slice (some ⟨g2, 0, none⟩) (o.length + 1) c3)
      have hBS : Blk (W.setCell ⟨gr, 1, none⟩ (.slice (some ⟨g2, 0, none⟩) (o.length + 1) c3)) gr [.slice av n cap, .slice (some ⟨g2, 0, none⟩) (o.length + 1) c3] := hBW.setC rfl
      have hOS : (W.setCell ⟨gr, 1, none⟩ (.slice (some ⟨g2, 0, none⟩) (o.length + 1) c3)).ownsRow (gr + 1) 27 7 (.slice (some ⟨g2, 0, none⟩) (o.length + 1) c3) (o.length + 1) (oes.flatten ++ [u0, u1, u2, u3, u4, u5, u6]) := own_other hO hne
      generalize W.setCell ⟨gr, 1, none⟩ (.slice (some ⟨g2, 0, none⟩) (o.length + 1) c3) = W2 at *
      rw [hF]
      have hL : FLe (fragE w2 (some gr :: some g2 :: Fx)) (fragE W2 (some gr :: some g2 :: Fx)) := (grownE hG (.inr (by simp)) (fun _ h => .inl h)).trans (grownE (E := (some gr :: some g2 :: Fx)) (E' := (some gr :: some g2 :: Fx)) hS (.inr (by simp)) (fun _ h => .inl h))
      refine ⟨hBS, hOS, hL, ?_⟩
      exact (Below.grown (Below.grown (Below.refl _ _) hG hz (fun k e => by cases e; have := (ho.lt g2 rfl).1; omega)) hS (Nat.le_trans hz hG.size) (fun k e => by cases e; exact Nat.le_refl _))
    · have hS := grown_setCell w2 ⟨gr, 1, none⟩ (.slice (some ⟨g2, 0, none⟩) (o.length + 1) c3)
      have hBS : Blk (w2.setCell ⟨gr, 1, none⟩ (.slice (some ⟨g2, 0, none⟩) (o.length + 1) c3)) gr [.slice av n cap, .slice (some ⟨g2, 0, none⟩) (o.length + 1) c3] := hB2.setC rfl
      have hOS : (w2.setCell ⟨gr, 1, none⟩ (.slice (some ⟨g2, 0, none⟩) (o.length + 1) c3)).ownsRow (gr + 1) 27 7 (.slice (some ⟨g2, 0, none⟩) (o.length + 1) c3) (o.length + 1) (oes.flatten ++ zV) := own_other ho hne
      generalize w2.setCell ⟨gr, 1, none⟩ (.slice (some ⟨g2, 0, none⟩) (o.length + 1) c3) = W at *
      have hO := elset_own (u0 := u0) (u1 := u1) (u2 := u2) (u3 := u3) (u4 := u4) (u5 := u5) (u6 := u6) hOS hx
      have hG := elset_grown W g2 (o.length * 7) u0 u1 u2 u3 u4 u5 u6
      generalize elset W g2 (o.length * 7) u0 u1 u2 u3 u4 u5 u6 = W2 at *
      rw [hF]
      have hL : FLe (fragE w2 (some gr :: some g2 :: Fx)) (fragE W2 (some gr :: some g2 :: Fx)) := (grownE (E' := (some gr :: some g2 :: Fx)) hS (.inr (by simp)) (fun _ h => .inl h)).trans (grownE (E := (some gr :: some g2 :: Fx)) (E' := (some gr :: some g2 :: Fx)) hG (.inr (by simp)) (fun _ h => .inl h))
      have hB3 : Blk W2 gr [.slice av n cap, .slice (some ⟨g2, 0, none⟩) (o.length + 1) c3] := hBS.grown hG (fun e => hne' (by simpa using e))
      refine ⟨hB3, hO, hL, ?_⟩
      exact (Below.grown (Below.grown (Below.refl _ _) hS hz (fun k e => by cases e; exact Nat.le_refl _)) hG (Nat.le_trans hz hS.size) (fun k e => by cases e; have := (ho.lt g2 rfl).1; omega))
  obtain ⟨m1, m2, m3, m4⟩ := main
  have hle := hle0.trans m3
  refine ⟨hb2.trans m4, rfl, av, n, cap, .slice (some ⟨g2, 0, none⟩) (o.length + 1) c3, les, oes ++ [[u0, u1, u2, u3, u4, u5, u6]], m1, H.left.mono hle, H.lr.mono hle, ?_, ?_⟩
  · rw [List.flatten_append, List.length_append, List.length_singleton]
    simpa using m2
  · exact (H.or.mono hle).snoc (hv.mono hle)

set_option maxRecDepth 100000 in
set_option maxHeartbeats 4000000 in
theorem put_any' (er : Errs) (w : World) (gr : Nat) (av : Option Addr) (n cap : Nat) (ov : Value) (l o : List V) (les oes : List (List Value)) (hr : RowAt Fx w gr av n cap ov l o les oes) (k c : Int) (v : V) (vc xc : List Value) (hv : VR (fragE w (some gr :: ov.ownBlock :: Fx)) v vc) (hlen : o.length ≤ 1000000000) :
    Calls Tryd.prog 69 #[.pointer (some ⟨gr, 0, none⟩), .agg (Value.int .i64 k :: .int .i64 c :: (vc ++ xc)).toArray] w (StepPost er Fx w gr (.ok (l, o ++ [v]))) := by
  have HR := Lib.hid (fun (wx : World) (hb : Below w.heap.size w wx) => hr.keep hb)
  have HS := Lib.hid (fun (w2 : World) (g : Nat) (hB : Blk w2 g (.int .i64 k :: .int .i64 c :: (vc ++ xc))) => hB.range (p := [.int .i64 k, .int .i64 c]) (q := vc) (r := xc) rfl rfl)
  have Hlt := Lib.hid hr.blk.lt
  have HV := Lib.hid hv
  obtain ⟨a2, c2, eo, _⟩ := Row.of_owns hr.own
  subst eo
  obtain ⟨vk, vn, vt, vr, b1, m1, d1, b2, m2, d2, b3, m3, d3, rfl⟩ := hv.shape
  clear hr hv
  go_enter Tryd.func69, Tryd.ntmps69
  go_wp2_with (first
    | (refine wpList_box_lay rfl 55 _ rfl _ rfl ?_; (intro w0 g0 hg0 hB0 hb0)))
  have H1 := Lib.hid (HR.out _ hb0)
  have hs := HS.out _ _ hB0
  have q0 : w0.cell? ⟨g0, 2, none⟩ = some (.int .i64 vk) := hs 0 _ rfl
  have q1 : w0.cell? ⟨g0, 3, none⟩ = some (.int .u64 vn) := hs 1 _ rfl
  have q2 : w0.cell? ⟨g0, 4, none⟩ = some (.string vt) := hs 2 _ rfl
  have q3 : w0.cell? ⟨g0, 5, none⟩ = some (.slice b1 m1 d1) := hs 3 _ rfl
  have q4 : w0.cell? ⟨g0, 6, none⟩ = some (.string vr) := hs 4 _ rfl
  have q5 : w0.cell? ⟨g0, 7, none⟩ = some (.slice b2 m2 d2) := hs 5 _ rfl
  have q6 : w0.cell? ⟨g0, 8, none⟩ = some (.slice b3 m3 d3) := hs 6 _ rfl
  have z1 := H1.out.blk.cell (o := 1) rfl
  have zf := H1.out.blk.frozen 1
  have hzg0 := hB0.lt
  have hzgr := H1.out.blk.lt
  clear hs hB0
  obtain ⟨i0, hi0, hi1, hi2, hi3⟩ := info_parts T_val.info
  have Hi := Lib.hid (And.intro hi0 (And.intro hi1 (And.intro hi2 hi3)))
  have Hown := Lib.hid H1.out.own
  have Hz : Hid ((o.length + 1) * 120 ≤ 140737488355328) := by show _ ≤ _; omega
  have Hm : Hid (o.length + 1 ≤ maxLen) := by show _ ≤ _; unfold maxLen; omega
  have Hgr : Hid (gr + 1 ≤ (w0.alloc (.cells zV.toArray 27)).heap.size) := by show _ ≤ _; simp; omega
  have Hne := Lib.hid H1.out.own_ne
  have Hnew : Hid (∀ j u, zV[j]? = some u → (w0.alloc (.cells zV.toArray 27)).cell? ((⟨w0.heap.size, 0, none⟩ : Addr).add j) = some u) := World.news_of_block (heap_alloc_new w0 _)
  have Hxl : Hid (oes.flatten.length = o.length * 7) := by
    show _ = _
    have := H1.out.own.1; omega
  have HW := Lib.hid (hb0.mono (Nat.le_of_lt Hlt.out))
  have HV0 := Lib.hid (HV.out.mono (belowE hb0 (fun _ h => .inl h)))
  have Hzf : Hid (∀ w2, (w0.alloc (.cells zV.toArray 27)).grownBy w2 (Value.slice a2 o.length c2).ownBlock → w2.frozen? ⟨gr, 1, none⟩ = false ∧ w2.cell? ⟨gr, 1, none⟩ = some (.slice a2 o.length c2)) := fun w2 hg => by
    have hB := (H1.out.blk.alloc (.cells zV.toArray 27)).grown hg H1.out.own_ne
    exact ⟨hB.frozen 1, hB.cell rfl⟩
  have hl1 : (o.length : Int) < (o.length : Int) + 1 := by omega
  clear hi0 hi1 hi2 hi3 hlen
  go_cut [] (fun wx => StepPost er Fx w gr (.ok (l, o ++ [v])) (.returned .nilIface) wx)
  case rest =>
    have HC := Lib.hid hcut
    clear hcut
    go_wp2_with fail
    go_ret
    exact HC.out
  go_region_law (((refine step_append_lies _ (by rfl) (.tmp 8) (.tmp 12) 24 (by rfl) (gr + 1) 27 i0 (.agg zV.toArray) 7 120 Tryd.underlying24 Hi.out.1 Hi.out.2.1 Hi.out.2.2.1 Hi.out.2.2.2 rfl (by decide) (.slice a2 o.length c2) o.length oes.flatten (by rfl) (Hown.out.alloc _) ⟨w0.heap.size, 0, none⟩ 1 1 zV (by rfl) rfl Hnew.out zV_one (by decide) Hm.out Hz.out Hgr.out (w0.heap.size + 1) (by simp) ?_); (intro g2 c3 w2 ho2 hg2 hat hl2; have hE := own_elem ho2 Hxl.out; obtain ⟨⟨e0, e1, e2, e3, e4, e5, e6⟩, f0, f1, f2, f3, f4, f5, f6⟩ := hE; obtain ⟨zf2, z2⟩ := Hzf.out w2 ⟨hg2.os, hg2.tape, hg2.output, hg2.size, hg2.block⟩; have hn1 := own_neq ho2; have hn2 := own_neq' ho2)))
  iterate 6
    · clear q0 q1 q2 q3 q4 q5 q6 z1 zf e0 e1 e2 e3 e4 e5 e6 f0 f1 f2 f3 f4 f5 f6 z2 zf2 hn1 hn2 hl1 hl2
      go_wp2_with fail
      go_meet
      have hP := put_done HW.out H1.out HV0.out (grown_trans' hg2) hat ho2 Hxl.out er
      refine hP _ (.inl ?_)
      unfold elset
      with_reducible rfl
    · clear q0 q1 q2 q3 q4 q5 q6 z1 zf e0 e1 e2 e3 e4 e5 e6 f0 f1 f2 f3 f4 f5 f6 z2 zf2 hn1 hn2 hl1 hl2
      go_wp2_with fail
      go_meet
      have hP := put_done HW.out H1.out HV0.out (grown_trans' hg2) hat ho2 Hxl.out er
      refine hP _ (.inr ?_)
      unfold elset
      with_reducible rfl

end Go.Proofs.YtkldcjlkeblggaaDoor
