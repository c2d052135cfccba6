/- The reference redlineref09, walked: join, enums, messages. -/
import Derived.Test.YtiofhfcohhfihaaGreatDoorScTab
import Derived.Test.YtiofhfcohhfihaaGreatDoorScMany
namespace Go.Proofs.YtiofhfcohhfihaaGreatDoor
open Go.RowKit
set_option linter.unusedVariables false
set_option linter.unusedSimpArgs false

theorem fScRefA13_29 {P : Program} {md : Region.Mode} {ops : Array Oper} {Q : Exit → Act → World → Prop} {P0 P1 : World → Prop} {fin fuel : Nat} {b0 b1 b2 b3 b4 b5 b6 b7 b8 b9 b10 b11 b12 : Bool} {x0 x1 x2 x3 x4 x5 x6 x7 x8 x9 x10 x11 x12 x13 x14 x15 x16 x17 x18 x19 x20 x21 x22 x23 x24 x25 x26 x27 x28 : Value} {d} {w : World} (h : wpAnyG P md ops Q P0 P1 fin fuel #[b0, b1, b2, b3, b4, b5, b6, b7, b8, b9, b10, b11, b12] ⟨#[x0, x1, x2, x3, x4, x5, x6, x7, x8, x9, x10, x11, x12, x13, x14, x15, x16, x17, x18, x19, x20, x21, x22, x23, x24, x25, x26, x27, x28], d⟩ w) : wpAnyG P md ops Q P0 P1 fin fuel #[b0, b1, b2, b3, b4, b5, b6, b7, b8, b9, b10, b11, b12] ⟨#[x0, x1, x2, x3, x4, x5, x6, x7, x8, x9, x10, x11, x12, x13, x14, x15, x16, x17, x18, x19, x20, x21, x22, x23, x24, x25, x26, x27, x28], d⟩ w := h

theorem T_RTy : SliceT Tryz.prog 55 62 (.agg zTy.toArray) 5 48 := ⟨Tryz.underlying55, by kernel_rfl, rfl, by decide, by decide⟩
theorem infoRTy : (Tryz.prog.info? 62).map (·.size) = some 5 := by kernel_rfl
theorem zeroRTy : (Tryz.prog.info? 62).map (·.zero) = some (some (.agg zTy.toArray)) := by kernel_rfl
theorem zinfoRTy : (Tryz.prog.info? 62).map (fun i => (i.size, i.zero.map (fun z => z.cells.size))) = some (5, some 5) := by kernel_rfl
def rawT (x : Sc.Raw) : Sc.Ty := ⟨x.full, x.enum, 0, x.line, x.col⟩
def rawC (x : Sc.Raw) : List Value := tyC (rawT x)
theorem rawC_len (x : Sc.Raw) : (rawC x).length = 5 := rfl
theorem rty_build4 (F : Lx.Bs) (li co : Nat) (w : World) : (Instr.build 62 #[(0, .string (toB F)), (1, .bool true), (3, .int .i64 (li : Nat)), (4, .int .i64 (co : Nat))]).run Tryz.prog w = .ok (.agg #[.string (toB F), .bool true, .int .i64 0, .int .i64 (li : Nat), .int .i64 (co : Nat)]) w := by kernel_rfl
theorem rty_build3 (F : Lx.Bs) (li co : Nat) (w : World) : (Instr.build 62 #[(0, .string (toB F)), (3, .int .i64 (li : Nat)), (4, .int .i64 (co : Nat))]).run Tryz.prog w = .ok (.agg #[.string (toB F), .bool false, .int .i64 0, .int .i64 (li : Nat), .int .i64 (co : Nat)]) w := by kernel_rfl
theorem own_base {w : World} {B B' : Nat} {e : TypeId} {size : Nat} {v : Value} {n : Nat} {xs : List Value} (h : w.ownsRow B e size v n xs) (hB : B' ≤ B) : w.ownsRow B' e size v n xs := by
  refine ⟨h.1, ?_⟩
  rcases h.2 with h' | ⟨g, cap, cur, h1, h2, h3⟩
  · exact .inl h'
  · exact .inr ⟨g, cap, cur, h1, Nat.le_trans hB h2, h3⟩
theorem wpList_append_opt {P : Program} {t e : TypeId} {z : Value} {size bytes : Nat} (T : SliceT P t e z size bytes) {ops : Array Oper} {rest : List Oper} {o : Oper} {a : Act} {Q : Exit → Act → World → Prop} (hgd : o.guard = .none) (s x : Operand)
    (ho : o.op = .call { callee := .builtin .append, args := #[s, x], argTypes := #[t, t] }) {W : World} {base n m c : Nat} {ad : Option Addr} {v : Value} {xs news : List Value}
    (hs : a.eval s = v) (hown : W.ownsRow base e size v n xs) (hx : a.eval x = .slice ad m c) (hnil : ad = none → c = 0) (hmc : m ≤ c) (hrow : HRow (frag W) ad news) (hl : news.length = m * size) (h1 : ∀ u ∈ news, u.oneCell' = true)
    (hn : (n + m) * bytes ≤ 140737488355328) (hbase : base ≤ W.heap.size)
    (h : ∀ v' w', w'.ownsRow base e size v' (n + m) (xs ++ news) → W.grownBy w' v.ownBlock → (v'.ownBlock = v.ownBlock ∨ v'.ownBlock = some W.heap.size) → wpList P ops Q rest (a.put o.dst v') w') : wpList P ops Q (o :: rest) a W :=
  wpList_plain hgd fun _ hK2 => wp_append_opt T s x ho hs hown hx hnil hmc hrow hl h1 hn hbase (fun v' w' q1 q2 q3 => hK2 _ _ (h v' w' q1 q2 q3))
theorem one_raws (l : List Sc.Raw) : ∀ u ∈ l.flatMap rawC, u.oneCell' = true := by
  intro u hu
  obtain ⟨x, _, hx⟩ := List.mem_flatMap.1 hu
  exact one_tyC _ u hx
theorem len_raws (l : List Sc.Raw) : (l.flatMap rawC).length = l.length * 5 := flat_len rawC_len l

set_option maxHeartbeats 1000000 in
set_option maxRecDepth 100000 in
theorem join_any (s n : Lx.Bs) (w : World) (hs : s.length ≤ 40000000) (hn : n.length ≤ 40000000) :
    Calls Tryz.prog 57 #[.string (toB s), .string (toB n)] w fun e w' => e = .returned (.string (toB (Sc.within s n))) ∧ w' = w := by
  unfold Sc.within
  have h1 : (toB s).size ≤ 40000000 := by rw [toB_size]; exact hs
  have h2 : (toB n).size ≤ 40000000 := by rw [toB_size]; exact hn
  by_cases h : s = []
  · subst h
    rw [if_pos rfl]
    have q2 : decide ((0 : Int) < ((toB []).size : Int)) = false := by rw [toB_size]; rfl
    have q3 : (toB []).size = 0 := by rw [toB_size]; rfl
    go_enter Tryz.func57, Tryz.ntmps57
    go_wp2_with fail
    go_ret
    exact ⟨rfl, rfl⟩
  · rw [if_neg h]
    have h0 : 0 < s.length := List.length_pos_iff.2 h
    have q2 : decide ((0 : Int) < ((toB s).size : Int)) = true := decide_eq_true (by rw [toB_size]; omega)
    have q3 : 0 < (toB s).size := by rw [toB_size]; exact h0
    have HC := Lib.hid (toB_three s n)
    clear hs hn h0 h
    go_enter Tryz.func57, Tryz.ntmps57
    go_wp2_with fail
    go_ret
    exact ⟨congrArg (fun b => Ending.returned (.string b)) HC.out, rfl⟩

/-- a row of types that a call lays -/
def RawPost (w : World) (l : List Sc.Raw) (e : Ending) (w' : World) : Prop :=
  ∃ v, e = .returned v ∧ w'.ownsRow w.heap.size 62 5 v l.length (l.flatMap rawC) ∧ Below w.heap.size w w'

set_option maxHeartbeats 8000000 in
set_option maxRecDepth 100000 in
theorem renums_any (h0 : Frag) (s : Lx.Bs) (es : List Sx.Enm) (v : Value) (ec : List (List Value)) (w : World) (hs : s.length ≤ 30000000) (hn : ∀ e ∈ es, e.name.length ≤ 5000) (hle : FLe h0 (frag w)) (hf : FlatD 4 h0 v ec) (he : EnsR h0 es ec) :
    Calls Tryz.prog 53 #[.string (toB s), v] w (RawPost w (Sc.rawEs s es)) := by
  obtain ⟨a, c, rfl, _, _, _⟩ := hf.1.len
  have hbd := hf.2
  have HF := Lib.hid hf.1; have HE := Lib.hid he; have HN := Lib.hid hn; have HL := Lib.hid hle; have Hs := Lib.hid hs
  have Hlen := Lib.hid he.len
  obtain ⟨n, hn2⟩ : ∃ z, z = ec.length := ⟨_, rfl⟩
  rw [← hn2] at HF Hlen hbd ⊢
  have Hn := Lib.hid hn2.symm
  have Hbd := Lib.hid hbd
  have hns : n ≤ 9223372036854775807 := by omega
  clear hf he hn hs hn2 hle hbd
  go_enter Tryz.func53, Tryz.ntmps53
  go_wp2_with fail
  go_loopw [5, 11] (fun u5 iv wr => ∃ k : Nat, k ≤ n ∧ iv = .int .i64 k ∧ Hid (wr.ownsRow w.heap.size 62 5 u5 k ((Sc.rawEs s (es.take k)).flatMap rawC)) ∧ Hid (Below w.heap.size w wr)) (fun _ iv _ => n - (intOf iv).toNat)
  case atStart => exact ⟨0, Nat.zero_le _, rfl, Lib.hid (World.ownsRow_lit w #[] 0 (Nat.le_refl _) (by decide) rfl), Lib.hid ((Below.refl _ _).alloc (Nat.le_refl _) _)⟩
  case round =>
    obtain ⟨k, hkn, rfl, HO, HB⟩ := hrel
    by_cases hlt : k < n
    · have hk1 : k < es.length := by rw [← Hlen.out]; exact hlt
      have hk2 : k < ec.length := by rw [Hn.out]; exact hlt
      have hle2 := HL.out.trans (below_le HB.out)
      obtain ⟨d0, o0, hd0, hidx, hcell⟩ := FlatC.at (n := n) (cap := c) (a := a) (HF.out.mono hle2) (by decide) (i := k) hk2 Tryz.underlying38 sizeRE
      have hr : wr.rangeAt d0 o0 ec[k] := hcell
      obtain ⟨v1, hec, hfv⟩ := HE.out.at hk1 hk2
      have hv1 := flatV_one hfv
      have Hnm := Lib.hid (HN.out es[k] (List.getElem_mem hk1))
      have HT1 : Hid ((Sc.rawEs s (es.take (k + 1))).flatMap rawC = (Sc.rawEs s (es.take k)).flatMap rawC ++ rawC (Sc.rawE s es[k])) := Lib.hid (by
        rw [List.take_succ_eq_append_getElem hk1]; unfold Sc.rawEs; rw [List.map_append, List.flatMap_append]; simp)
      rw [hec] at hr
      unfold Sc.rawE at HT1
      clear hcell hle2 hec hfv
      generalize es[k] = x at *
      obtain ⟨nm, vs, li, co⟩ := x
      dsimp only at hr HT1 Hnm
      have Ht := Lib.hid (show ∀ u ∈ ([.string (toB nm), v1, .int .i64 li, .int .i64 co] : List Value), u.oneCell' = true from by
        intro u hu; simp only [List.mem_cons, List.not_mem_nil, or_false] at hu
        rcases hu with rfl | rfl | rfl | rfl
        · rfl
        · exact hv1
        · rfl
        · rfl)
      clear hv1
      go_upto_region 5 with (first
        | (refine wpList_load_seg rfl 106 _ rfl _ _ rfl _ _ hr Tryz.underlying106 rfl infoRE ?_)
        | (refine wpList_alloc_lay rfl 106 rfl zEn zeroRE ?_; (intro w7 g7 hg7 hB7 hb7; clear hr))
        | (refine wpList_store_all rfl 106 _ _ rfl g7 [.string (toB nm), v1, .int .i64 li, .int .i64 co] rfl rfl zEn hB7 infoRE rfl Ht.out ?_; (intro w8 hB8 hgr8; have hb8 := Below.grown hb7 hgr8 hb7.size (fun _ e => by cases e; exact hg7); clear hb7 hgr8 hB7)))
      have HJ := Lib.hid (join_any s nm w8.drew (by have := Hs.out; omega) (by have := Hnm.out; omega))
      have HO8 := Lib.hid (owns_below HO.out hb8.drew)
      have HB8 := Lib.hid (HB.out.trans (hb8.drew.mono HB.out.size))
      obtain ⟨F, hF⟩ : ∃ F, F = Sc.within s nm := ⟨_, rfl⟩
      rw [← hF] at HJ HT1
      have hP : Blk w8.drew g7 [.string (toB nm), v1, .int .i64 li, .int .i64 co] := hB8
      clear hF hB8 hb8 hg7 hd0 hidx hk1 hk2
      refine wp_region_G 11 (fun _ => True) (fun w' => Blk w' g7 [.string (toB nm), v1, .int .i64 li, .int .i64 co]) (by kernel_rfl) trivial hP (fun _ => ?_)
      refine fScRefA13_29 ?_
      refine wpAnyG_take0 (i := 0) (v := u5) rfl (by kernel_rfl) (fun _ _ _ h => h) (.inl ⟨by rfl, fun w hw => by go_simp⟩) (InvG.mk trivial hP) ?_
      refine fScRefA13_29 ?_
      refine wpAnyG_take (i := 1) (v := .string (toB s)) rfl (by kernel_rfl) (fun _ _ _ h => h) (.inl ⟨by rfl, fun w hw => by go_simp⟩) (InvG.mk trivial hP) ?_
      refine fScRefA13_29 ?_
      refine wpAnyG_take (i := 2) (v := .pointer (some ⟨g7, 0, none⟩)) rfl (by kernel_rfl) (fun _ _ _ h => h) (.inl ⟨by rfl, fun w hw => by go_simp⟩) (InvG.mk trivial hP) ?_
      refine fScRefA13_29 ?_
      refine wpAnyG_take (i := 3) (v := .string (toB nm)) rfl (by kernel_rfl) (fun _ _ _ h => h) (.inl ⟨by rfl, fun w hw => by have hc := hw.2.cell (o := 0) (u := .string (toB nm)) rfl; clear hw; go_simp⟩) (InvG.mk trivial hP) ?_
      refine fScRefA13_29 ?_
      refine wpAnyG_take (i := 5) (v := .pointer (some ⟨g7, 2, none⟩)) rfl (by kernel_rfl) (fun _ _ _ h => h) (.inl ⟨by rfl, fun w hw => by go_simp⟩) (InvG.mk trivial hP) ?_
      refine fScRefA13_29 ?_
      refine wpAnyG_take (i := 6) (v := .int .i64 li) rfl (by kernel_rfl) (fun _ _ _ h => h) (.inl ⟨by rfl, fun w hw => by have hc := hw.2.cell (o := 2) (u := .int .i64 li) rfl; clear hw; go_simp⟩) (InvG.mk trivial hP) ?_
      refine fScRefA13_29 ?_
      refine wpAnyG_take (i := 7) (v := .pointer (some ⟨g7, 3, none⟩)) rfl (by kernel_rfl) (fun _ _ _ h => h) (.inl ⟨by rfl, fun w hw => by go_simp⟩) (InvG.mk trivial hP) ?_
      refine fScRefA13_29 ?_
      refine wpAnyG_take (i := 8) (v := .int .i64 co) rfl (by kernel_rfl) (fun _ _ _ h => h) (.inl ⟨by rfl, fun w hw => by have hc := hw.2.cell (o := 3) (u := .int .i64 co) rfl; clear hw; go_simp⟩) (InvG.mk trivial hP) ?_
      refine fScRefA13_29 ?_
      refine wpAnyG_ready (rs := [4]) (by kernel_rfl) (by simp) ?_
      refine AllReadyG.plain rfl rfl (fun K hK => ?_) AllReadyG.nil
      go_simp
      refine HJ.out.mono ?_
      rintro e w9 ⟨rfl, rfl⟩
      refine hK.out _ _ (InvG.mk trivial hP) (fun _ => ?_)
      clear hK
      refine fScRefA13_29 ?_
      refine wpAnyG_take (i := 9) (v := .agg (rawC ⟨F, true, li, co⟩).toArray) rfl (by kernel_rfl) (fun _ _ _ h => h) (.inl ⟨by rfl, fun w hw => by clear hw; go_simp; rfl⟩) (InvG.mk trivial hP) ?_
      refine fScRefA13_29 ?_
      refine wpAnyG_ready (rs := [10]) (by kernel_rfl) (by simp) ?_
      refine AllReadyG.plain rfl rfl (fun K hK => ?_) AllReadyG.nil
      refine wp_buildSlice1 55 62 _ rfl (rawC ⟨F, true, li, co⟩) (.agg (rawC ⟨F, true, li, co⟩).toArray) rfl Tryz.underlying55 zinfoRTy (show 0 < 5 by decide) (show 5 ≤ 1000 by decide) rfl ?_
      have hP3 : Blk (w8.drew.alloc (.cells (rawC ⟨F, true, li, co⟩).toArray 62)) g7 [.string (toB nm), v1, .int .i64 li, .int .i64 co] := hP.alloc _
      refine hK.out _ _ (InvG.mk trivial hP3) (fun _ => ?_)
      clear hK
      refine fScRefA13_29 ?_
      refine wpAnyG_ready (rs := [11]) (by kernel_rfl) (by simp) ?_
      refine AllReadyG.plain rfl rfl (fun K hK => ?_) AllReadyG.nil
      refine wp_append_own1 T_RTy _ _ rfl (rawC ⟨F, true, li, co⟩) rfl (w := w8.drew) (B := w.heap.size) (n := k) (v := u5) HO8.out rfl rfl (one_tyC _) (by have := Hbd.out; omega) (HB8.out.size) ?_
      intro v' w9 hown9 hgr9 hat9 hone9
      refine hK.out _ _ (InvG.past trivial (by kernel_rfl)) (fun _ => ?_)
      clear hK
      refine fScRefA13_29 ?_
      refine wpAnyG_take0 (i := 12) (v := v') rfl (by kernel_rfl) (fun _ _ _ h => h) (.inl ⟨by rfl, fun w hw => by go_simp⟩) (InvG.past trivial (by kernel_rfl)) ?_
      refine fScRefA13_29 ?_
      refine wpAnyG_done (by kernel_rfl) ?_ _
      have HO9 : Hid (w9.ownsRow w.heap.size 62 5 v' (k + 1) ((Sc.rawEs s (es.take (k + 1))).flatMap rawC)) := Lib.hid (by rw [HT1.out]; exact hown9)
      have HB9 : Hid (Below w.heap.size w w9) := Lib.hid (Below.grown HB8.out hgr9 HB8.out.size (fun k hk => (HO8.out.lt k hk).1))
      clear hP hP3 hown9 hgr9 hat9
      go_wp2_with fail
      go_roundw
      case rel => exact ⟨k + 1, by omega, by go_num, HO9, HB9⟩
      case measure => simp [intOf]; omega
    · obtain rfl : n = k := by omega
      have HOe : Hid (wr.ownsRow w.heap.size 62 5 u5 (Sc.rawEs s es).length ((Sc.rawEs s es).flatMap rawC)) := Lib.hid (by
        have h1 := HO.out
        rw [List.take_of_length_le (by rw [← Hlen.out]; exact Nat.le_refl _)] at h1
        rw [Sx.rawEs_len, ← Hlen.out]; exact h1)
      clear HO hkn hlt
      go_wp2_with fail
      go_ret
      exact ⟨_, rfl, HOe.out, HB.out⟩

def rmessagesAt (N : Nat) : Prop := ∀ (h0 : Frag) (s : Lx.Bs) (ms : List Sx.Msg) (v : Value) (mc : List (List Value)) (w : World), s.length + N * 5001 ≤ 29000000 → (∀ m ∈ ms, Sx.DeepM N m) → (Sc.rawMs s ms).length ≤ 100000 → FLe h0 (frag w) → FlatD 9 h0 v mc → MsgsR h0 ms mc →
  Calls Tryz.prog 54 #[.string (toB s), v] w (RawPost w (Sc.rawMs s ms))
theorem rawMs_take (s : Lx.Bs) (ms : List Sx.Msg) {k : Nat} (hk : k < ms.length) : Sc.rawMs s (ms.take (k + 1)) = Sc.rawMs s (ms.take k) ++ Sc.rawM s ms[k] := by
  have key : ∀ (a b : List Sx.Msg), Sc.rawMs s (a ++ b) = Sc.rawMs s a ++ Sc.rawMs s b := by
    intro a
    induction a with
    | nil => intro b; rw [List.nil_append, Sc.rawMs, List.nil_append]
    | cons x r ih => intro b; rw [List.cons_append, Sc.rawMs, Sc.rawMs, ih, List.append_assoc]
  rw [List.take_succ_eq_append_getElem hk, key, Sc.rawMs, Sc.rawMs, List.append_nil]
theorem rawMs_few (s : Lx.Bs) (ms : List Sx.Msg) (k : Nat) : (Sc.rawMs s (ms.take k)).length ≤ (Sc.rawMs s ms).length := by
  have key : ∀ (a b : List Sx.Msg), Sc.rawMs s (a ++ b) = Sc.rawMs s a ++ Sc.rawMs s b := by
    intro a
    induction a with
    | nil => intro b; rw [List.nil_append, Sc.rawMs, List.nil_append]
    | cons x r ih => intro b; rw [List.cons_append, Sc.rawMs, Sc.rawMs, ih, List.append_assoc]
  have h := key (ms.take k) (ms.drop k)
  rw [List.take_append_drop] at h
  rw [h, List.length_append]; omega

set_option maxHeartbeats 16000000 in
set_option maxRecDepth 100000 in
theorem rmessages_succ (N : Nat) (ih : ∀ M, N = M + 1 → rmessagesAt M) : rmessagesAt N := by
  intro h0 s ms v mc w hs hd hfew hle hf he
  obtain ⟨a, c, rfl, _, _, _⟩ := hf.1.len
  have hbd := hf.2
  have HF := Lib.hid hf.1; have HE := Lib.hid he; have HD := Lib.hid hd; have Hs := Lib.hid hs; have HL := Lib.hid hle; have Hfew := Lib.hid hfew
  have Hlen := Lib.hid he.len
  have Hih := Lib.hid ih
  obtain ⟨n, hn2⟩ : ∃ z, z = mc.length := ⟨_, rfl⟩
  rw [← hn2] at HF Hlen hbd ⊢
  have Hn := Lib.hid hn2.symm
  have hns : n ≤ 9223372036854775807 := by omega
  clear hf he hd hs hn2 ih hle hfew
  go_enter Tryz.func54, Tryz.ntmps54
  go_wp2_with fail
  go_loopw [5, 12] (fun u5 iv wr => ∃ k : Nat, k ≤ n ∧ iv = .int .i64 k ∧ Hid (wr.ownsRow w.heap.size 62 5 u5 (Sc.rawMs s (ms.take k)).length ((Sc.rawMs s (ms.take k)).flatMap rawC)) ∧ Hid (Below w.heap.size w wr)) (fun _ iv _ => n - (intOf iv).toNat)
  case atStart => exact ⟨0, Nat.zero_le _, rfl, Lib.hid (by rw [List.take_zero, Sc.rawMs]; exact World.ownsRow_lit w #[] 0 (Nat.le_refl _) (by decide) rfl), Lib.hid ((Below.refl _ _).alloc (Nat.le_refl _) _)⟩
  case round =>
    obtain ⟨k, hkn, rfl, HO, HB⟩ := hrel
    by_cases hlt : k < n
    · have hk1 : k < ms.length := by rw [← Hlen.out]; exact hlt
      have hk2 : k < mc.length := by rw [Hn.out]; exact hlt
      have hle2 := HL.out.trans (below_le HB.out)
      obtain ⟨d0, o0, hd0, hidx, hcell⟩ := FlatC.at (n := n) (cap := c) (a := a) (HF.out.mono hle2) (by decide) (i := k) hk2 Tryz.underlying37 sizeRM
      have hr : wr.rangeAt d0 o0 mc[k] := hcell
      have hm := HE.out.at hk1 hk2
      have Hone := Lib.hid hm.one
      have hdm := HD.out ms[k] (List.getElem_mem hk1)
      obtain ⟨M, rfl⟩ : ∃ M, N = M + 1 := by
        cases N with
        | zero => exact absurd hdm (fun h => h)
        | succ M => exact ⟨M, rfl⟩
      have HI := Lib.hid (Hih.out M rfl)
      have HT1 := Lib.hid (rawMs_take s ms hk1)
      have Hfw := Lib.hid (Nat.le_trans (rawMs_few s ms (k + 1)) Hfew.out)
      rw [HT1.out, List.length_append] at Hfw
      clear hcell hle2 Hih
      generalize ms[k] = x at *
      generalize mc[k] = xc at *
      obtain ⟨nm, fs, os, mss, es, rs, nss, li, co⟩ := x
      rw [MsgR] at hm
      obtain ⟨v1, v2, v3, v4, v5, v6, m3, m4, rfl, ⟨q1, q2, q3, q4, q5, q6⟩, hm3, hm4⟩ := hm
      obtain ⟨a3, c3, rfl, _, _, _⟩ := q3.1.len
      obtain ⟨a4, c4, rfl, _, _, _⟩ := q4.1.len
      have HQ3 := Lib.hid q3; have HQ4 := Lib.hid q4; have HM3 := Lib.hid hm3; have HM4 := Lib.hid hm4
      have Hdm := Lib.hid hdm
      obtain ⟨F, hF⟩ : ∃ F, F = Sc.within s nm := ⟨_, rfl⟩
      have HFl : Hid (F.length + M * 5001 ≤ 29000000) := Lib.hid (by
        have h1 := within_len s nm
        have h2 := hdm.1
        have h3 := Hs.out
        rw [hF]; omega)
      rw [Sc.rawM, ← hF] at HT1 Hfw
      have HJ := Lib.hid (fun w0 => join_any s nm w0 (by have := Hs.out; omega) (by have := Hdm.out.1; omega))
      rw [← hF] at HJ
      obtain ⟨L, hL⟩ : ∃ L, L = Sc.rawMs s (ms.take k) := ⟨_, rfl⟩
      rw [← hL] at HO HT1 Hfw
      clear hdm hm3 hm4 q1 q2 q3 q4 q5 q6 hF hL
      obtain ⟨cs, hcs⟩ : ∃ cs : List Value, cs = [.string (toB nm), v1, v2, .slice a3 m3.length c3, .slice a4 m4.length c4, v5, v6, .int .i64 li, .int .i64 co] := ⟨_, rfl⟩
      have Hcs := Lib.hid hcs
      have Hc9 : Hid (cs.length = 9) := Lib.hid (by rw [hcs]; rfl)
      rw [← hcs] at hr Hone
      clear hcs
      go_upto_region 5 with (first
        | (refine wpList_load_seg rfl 102 _ rfl _ _ rfl _ _ hr Tryz.underlying102 rfl ?_ ?_; (· rw [Hc9.out]; exact infoRM))
        | (refine wpList_alloc_lay rfl 102 rfl zMs zeroRM ?_; (intro w7 g7 hg7 hB7 hb7; clear hr))
        | (refine wpList_store_all rfl 102 _ _ rfl g7 cs rfl rfl zMs hB7 ?_ ?_ ?_ ?_; (· rw [Hc9.out]; exact infoRM); (· exact Hc9.out); (· exact Hone.out); (intro w8 hB8 hgr8; have hb8 := Below.grown hb7 hgr8 hb7.size (fun _ e => by cases e; exact hg7); clear hb7 hgr8 hB7)))
      rw [Hcs.out] at hB8
      have y0 : w8.cell? ⟨g7, 0, none⟩ = some (.string (toB nm)) := hB8.cell (o := 0) rfl
      have y2 : w8.cell? ⟨g7, 7, none⟩ = some (.int .i64 li) := hB8.cell (o := 7) rfl
      have y3 : w8.cell? ⟨g7, 8, none⟩ = some (.int .i64 co) := hB8.cell (o := 8) rfl
      have HO8 := Lib.hid (owns_below HO.out hb8)
      have HB8 := Lib.hid (HB.out.trans (hb8.mono HB.out.size))
      have HX8 := Lib.hid hB8
      have Hg7 : Hid (∀ k, u5.ownBlock = some k → k ≠ g7) := Lib.hid (fun k hk e => by have := (HO.out.lt k hk).2; omega)
      clear hB8 hb8 hg7 hd0 hidx hk1 hk2
      have hbld := rty_build3
      go_upto_region 7 with (first
        | (go_at_call 57; (with_reducible refine (HJ.out _).mono ?_); rintro e w9 ⟨rfl, rfl⟩)
        | (refine wpList_buildSlice1 rfl 55 62 _ rfl (rawC ⟨F, false, li, co⟩) (.agg (rawC ⟨F, false, li, co⟩).toArray) rfl Tryz.underlying55 zinfoRTy (show 0 < 5 by decide) (show 5 ≤ 1000 by decide) rfl ?_)
        | (at_builtin; refine wpList_append_own1 T_RTy rfl _ _ rfl (rawC ⟨F, false, li, co⟩) rfl (B := w.heap.size) (n := L.length) (v := u5) HO8.out rfl rfl (one_tyC _) ?_ HB8.out.size ?_; (· have := Hfw.out; simp only [List.length_append, List.length_cons] at this; omega); (intro v9 w9 hown9 hgr9 hat9 hone9)))
      have HO9 : Hid (w9.ownsRow w.heap.size 62 5 v9 (L.length + 1) (L.flatMap rawC ++ rawC ⟨F, false, li, co⟩)) := Lib.hid hown9
      have HB9 : Hid (Below w.heap.size w w9) := Lib.hid (Below.grown HB8.out hgr9 HB8.out.size (fun k hk => (HO8.out.lt k hk).1))
      have hat9' : v9.ownBlock = u5.ownBlock ∨ ∀ k, v9.ownBlock = some k → k ≠ g7 := by
        rcases hat9 with h | ⟨gn, h, hge⟩
        · exact .inl h
        · right
          intro k hk e
          rw [h] at hk; cases hk
          have := HX8.out.lt; omega
      have HX9 := Lib.hid (HX8.out.grown hgr9 (fun e => Hg7.out g7 e.symm rfl))
      have y4 : w9.cell? ⟨g7, 4, none⟩ = some (.slice a4 m4.length c4) := HX9.out.cell (o := 4) rfl
      have HEn := Lib.hid (renums_any h0 F es (.slice a4 m4.length c4) m4 w9 (by have := HFl.out; omega) Hdm.out.2.1 (HL.out.trans (below_le HB9.out)) HQ4.out HM4.out)
      unfold RawPost at HEn
      clear y0 y2 y3 hown9 hgr9 hat9 hbld
      go_upto_region 8 with (first
        | (go_at_call 53; (with_reducible refine HEn.out.mono ?_); rintro e w10 ⟨u10, rfl, hown10, hb10⟩; obtain ⟨a10, c10, rfl, hrow10, hn10, hm10, hz10⟩ := HRow.of_owns (E := []) hown10 (.inr (by simp)); rw [fragE_nil] at hrow10; have HO10 := Lib.hid (owns_below HO9.out hb10); have HB10 := Lib.hid (HB9.out.trans (hb10.mono HB9.out.size)); have HX10 := Lib.hid (HX9.out.below hb10 HX9.out.lt))
        | (at_builtin; refine wpList_append_opt T_RTy rfl _ _ rfl rfl HO10.out rfl hz10 hn10 hrow10 (len_raws _) (one_raws _) ?_ HB10.out.size ?_; (· have := Hfw.out; simp only [List.length_append, List.length_cons] at this; omega); (intro v11 w11 hown11 hgr11 hat11)))
      have Hg10 : Hid (∀ k, v9.ownBlock = some k → k ≠ g7) := Lib.hid (fun k hk e => by
        rcases hat9' with h | h
        · exact Hg7.out k (h ▸ hk) e
        · exact h k hk e)
      have HO11 := Lib.hid hown11
      have HB11 : Hid (Below w.heap.size w w11) := Lib.hid (Below.grown HB10.out hgr11 HB10.out.size (fun k hk => (HO10.out.lt k hk).1))
      have HX11 := Lib.hid (HX10.out.grown hgr11 (fun e => Hg10.out g7 e.symm rfl))
      have y5 : w11.cell? ⟨g7, 3, none⟩ = some (.slice a3 m3.length c3) := HX11.out.cell (o := 3) rfl
      have HMs := Lib.hid (HI.out h0 F mss (.slice a3 m3.length c3) m3 w11 HFl.out Hdm.out.2.2 (by have := Hfw.out; simp only [List.length_append, List.length_cons] at this; omega) (HL.out.trans (below_le HB11.out)) HQ3.out HM3.out)
      unfold RawPost at HMs
      clear y4 hown11 hgr11 hat11 hown10 hb10 hrow10 hn10 hm10 hz10
      go_wp2_with (first
        | (go_at_call 54; (with_reducible refine HMs.out.mono ?_); rintro e w12 ⟨u12, rfl, hown12, hb12⟩; obtain ⟨a12, c12, rfl, hrow12, hn12, hm12, hz12⟩ := HRow.of_owns (E := []) hown12 (.inr (by simp)); rw [fragE_nil] at hrow12; have HO12 := Lib.hid (owns_below HO11.out hb12); have HB12 := Lib.hid (HB11.out.trans (hb12.mono HB11.out.size)))
        | (at_builtin; refine wpList_append_opt T_RTy rfl _ _ rfl rfl HO12.out rfl hz12 hn12 hrow12 (len_raws _) (one_raws _) ?_ HB12.out.size ?_; (· have := Hfw.out; simp only [List.length_append, List.length_cons] at this; omega); (intro v13 w13 hown13 hgr13 hat13)))
      have HO13 : Hid (w13.ownsRow w.heap.size 62 5 v13 (Sc.rawMs s (ms.take (k + 1))).length ((Sc.rawMs s (ms.take (k + 1))).flatMap rawC)) := Lib.hid (by
        rw [HT1.out]
        have e1 : (L ++ ⟨F, false, li, co⟩ :: (Sc.rawEs F es ++ Sc.rawMs F mss)).length = L.length + 1 + (Sc.rawEs F es).length + (Sc.rawMs F mss).length := by
          simp only [List.length_append, List.length_cons]; omega
        have e2 : (L ++ ⟨F, false, li, co⟩ :: (Sc.rawEs F es ++ Sc.rawMs F mss)).flatMap rawC = L.flatMap rawC ++ rawC ⟨F, false, li, co⟩ ++ (Sc.rawEs F es).flatMap rawC ++ (Sc.rawMs F mss).flatMap rawC := by
          simp only [List.flatMap_append, List.flatMap_cons, List.append_assoc]
        rw [e1, e2]; exact hown13)
      have HB13 : Hid (Below w.heap.size w w13) := Lib.hid (Below.grown HB12.out hgr13 HB12.out.size (fun k hk => (HO12.out.lt k hk).1))
      clear hown13 hgr13 hat13 hown12 hb12 hrow12 hn12 hm12 hz12 y5
      go_roundw
      case rel => exact ⟨k + 1, by omega, by go_num, HO13, HB13⟩
      case measure => simp [intOf]; omega
    · obtain rfl : n = k := by omega
      have HOe : Hid (wr.ownsRow w.heap.size 62 5 u5 (Sc.rawMs s ms).length ((Sc.rawMs s ms).flatMap rawC)) := Lib.hid (by
        have h1 := HO.out
        rw [List.take_of_length_le (by rw [← Hlen.out]; exact Nat.le_refl _)] at h1
        exact h1)
      clear HO hkn hlt
      go_wp2_with fail
      go_ret
      exact ⟨_, rfl, HOe.out, HB.out⟩
theorem rmessages_at : ∀ N, rmessagesAt N
  | 0 => rmessages_succ 0 (fun M e => by omega)
  | N + 1 => rmessages_succ (N + 1) (fun M e => by obtain rfl : N = M := by omega
                                                   exact rmessages_at N)

end Go.Proofs.YtiofhfcohhfihaaGreatDoor
