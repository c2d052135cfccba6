/- Package lexer, walked: a text's tokens. -/
import Derived.Test.YtpcfdngnmigkfaaGreatDoorGroupL
import Derived.Test.YtpcfdngnmigkfaaGreatDoorGroupA
set_option linter.unusedVariables false
set_option linter.unusedSimpArgs false
namespace Go.Proofs.YtpcfdngnmigkfaaGreatDoor
open Go.RowKit
def tC (t : Lx.Tok) : List Value := tokC t.kind t.text t.num t.line t.col
theorem tC_len (t : Lx.Tok) : (tC t).length = 5 := rfl
theorem T_tok : SliceT Tryz.prog 48 80 (.agg zT.toArray) 5 48 := ⟨Tryz.underlying48, by kernel_rfl, rfl, by decide, by decide⟩
def SplitPost (A : Nat → Addr) (w : World) : Lx.Out → Ending → World → Prop
 | .ok ts, e, w' => ∃ v, e = .returned (.tuple #[v, .nilIface]) ∧ FlatV tC (frag w') v ts ∧ Below w.heap.size w w'
 | .bad n p, e, w' => ∃ g, e = .returned (.tuple #[.slice none 0 0, .iface 73 (.pointer (some ⟨g, 0, none⟩))]) ∧ Blk w' g [.int .i64 (p.1 : Nat), .int .i64 (p.2 : Nat), errV (A (n - 1))] ∧ w.heap.size ≤ g ∧ Below w.heap.size w w'
def appO (ts : List Lx.Tok) : Lx.Out → Lx.Out
 | .bad n p => .bad n p
 | .ok us => .ok (ts ++ us)
theorem appO_nil (o : Lx.Out) : appO [] o = o := by cases o <;> rfl
theorem appO_cons (ts : List Lx.Tok) (t : Lx.Tok) (o : Lx.Out) : appO ts (o.cons t) = appO (ts ++ [t]) o := by
 cases o with
 | bad n p => rfl
 | ok us => simp [Lx.Out.cons, appO]
def SplAt (w : World) (B : Nat) (s : ByteArray) (k : Nat) (out : Value) (wr : World) : Prop :=
 ∃ ts : List Lx.Tok, k ≤ s.size ∧ Blk wr B (scanC (rest s k) (Lx.adv (1, 1) (s.data.toList.take k))) ∧ wr.ownsRow w.heap.size 80 5 out ts.length (ts.flatMap tC) ∧ out.ownBlock ≠ some B ∧ Below w.heap.size w wr ∧ ts.length ≤ k ∧
  Lx.splitN s.data.toList (1, 1) = appO ts (Lx.splitN (s.data.toList.drop k) (Lx.adv (1, 1) (s.data.toList.take k)))
set_option maxHeartbeats 4000000 in
set_option maxRecDepth 100000 in
theorem split_long (A : Nat → Addr) (s : ByteArray) (w : World) (hv : Vars A w) (hs : 4000 < s.size) (hm : s.size ≤ maxLen) :
  Calls Tryz.prog 10 #[.string s] w (SplitPost A w (.bad 3 (0, 0))) := by
 unfold maxLen at hm
 have hlong := hv.long
 unfold errV at hlong
 have hsz : (4000 : Int) < (s.size : Int) := by omega
 clear hv hs
 go_enter Tryz.func10, Tryz.ntmps10
 go_wp2
 go_region
 all_goals
  go_wp2
  go_ret2
  refine ⟨w.heap.size, rfl, ⟨75, heap_alloc_last w _⟩, Nat.le_refl _, ((Below.refl _ _).alloc (Nat.le_refl _) _).drew⟩
set_option maxHeartbeats 4000000 in
set_option maxRecDepth 100000 in
theorem split_any (A : Nat → Addr) (s : ByteArray) (w : World) (hv : Vars A w) (hs : ¬ 4000 < s.size) :
  Calls Tryz.prog 10 #[.string s] w (SplitPost A w (Lx.splitN s.data.toList (1, 1))) := by
 have Hv := Yq hv
 have hsz : (s.size : Int) ≤ 4000 := by omega
 have HBlk : Hid (Blk (w.alloc (.cells #[.string s, .int .i64 1, .int .i64 1] 78)) w.heap.size (scanC s (1, 1))) := Yq ⟨_, heap_alloc_last w _⟩
 have HBel : Hid (Below w.heap.size w (w.alloc (.cells #[.string s, .int .i64 1, .int .i64 1] 78))) := Yq ((Below.refl _ _).alloc (Nat.le_refl _) _)
 have HG : Hid (GLt w.heap.size) := Yq hv.lt
 clear hv
 go_enter Tryz.func10, Tryz.ntmps10
 go_wp2
 go_loopg [5, 6, 7, 8] s.size (fun g out _ _ _ wr => ∃ k : Nat, k + g = s.size ∧ SplAt w w.heap.size s k out wr)
 case atStart => exact ⟨0, by omega, [], Nat.zero_le _, HBlk.out, World.ownsRow_nil _ _ _ _, by simp [Value.ownBlock], HBel.out, Nat.le_refl _, by rw [appO_nil]; rfl⟩
 case round =>
  obtain ⟨k, hkg, ts, hk, hB, hown, hne, hbel, hts, hsp⟩ := hrel
  obtain ⟨l, hl⟩ : ∃ l, l = s.data.toList := ⟨_, rfl⟩
  obtain ⟨q, hq⟩ : ∃ q, q = Lx.adv (1, 1) (l.take k) := ⟨_, rfl⟩
  have hadv := Lx.adv_le (1, 1) (l.take k)
  rw [← hl, ← hq] at hB hsp
  rw [← hq, List.length_take] at hadv
  have hll : l.length = s.size := by rw [hl, len_data]
  have hr1 : (rest s k).size = s.size - k := rest_size s k
  have Hvr := Yq (Hv.out.below hbel)
  have HGp := Yq (gap_any A (rest s k) q w.heap.size wr Hvr.out HG.out hB (by omega) (by omega) (by omega))
  unfold GapPost at HGp
  have hlist : (rest s k).data.toList = l.drop k := by rw [rest_list, hl]
  rw [hlist] at HGp
  have hgl := Lx.gapN_le (l.drop k).length (l.drop k) (Nat.le_refl _)
  rw [List.length_drop] at hgl
  obtain ⟨n, hn⟩ : ∃ n, n = (Lx.gapN (l.drop k)).1 := ⟨_, rfl⟩
  rw [← hn] at HGp hgl
  have Hn := Yq hn; have Hq := Yq hq; have Hl := Yq hl; have Hll := Yq hll; have Hown := Yq hown; have Hne := Yq hne; have Hbel := Yq hbel; have Hsp := Yq hsp
  have Hlt := Yq hB.lt
  have Hsz : Hid (w.heap.size ≤ wr.heap.size) := Yq hbel.size
  clear hn hq hl hown hne hbel hsp hB hlist
  have hq1 : q.1 ≤ 4001 ∧ q.2 ≤ 4002 := by omega
  clear hadv
  have hadv2 := Lx.adv_le q ((l.drop k).take n)
  rw [List.length_take] at hadv2
  obtain ⟨q2, hq2⟩ : ∃ q2, q2 = Lx.adv q ((l.drop k).take n) := ⟨_, rfl⟩
  rw [← hq2] at HGp hadv2
  have Hq2 := Yq hq2
  have Hrr : Hid (rest (rest s k) n = rest s (k + n)) := Yq (rest_rest s k n)
  rw [Hrr.out] at HGp
  clear hq2
  cases hg : (Lx.gapN (l.drop k)).2
  ·rw [hg] at HGp
   have Hend : Hid (Lx.splitN s.data.toList (1, 1) = .bad 9 q2) := Yq (by
    rw [← Hl.out, Hsp.out, Lx.splitN_bad hg, ← Hn.out, ← Hq2.out]; rfl)
   clear hg
   go_wp2_with fail
   refine HGp.out.mono ?_
   rintro e w1 ⟨rfl, hB1, hg1⟩
   have c1 : w1.cell? ⟨w.heap.size, 1, none⟩ = some (.int .i64 q2.1) := hB1.cell (o := 1) rfl
   have c2 : w1.cell? ⟨w.heap.size, 2, none⟩ = some (.int .i64 q2.2) := hB1.cell (o := 2) rfl
   have hb1 : Below w.heap.size w w1 := Below.grown Hbel.out hg1 Hbel.out.size (fun _ e => by cases e; exact Nat.le_refl _)
   have hform := (Hv.out.below hb1).form
   unfold errV at hform
   have Hb1 := Yq hb1
   clear hb1 hg1 hB1
   go_wp2_with fail
   go_region
   all_goals
    go_wp2
    go_ret2
    rw [Hend.out]
    exact ⟨w1.heap.size, rfl, ⟨75, heap_alloc_last w1 _⟩, Hb1.out.size, (Hb1.out.alloc Hb1.out.size _).drew⟩
  ·rw [hg] at HGp
   go_wp2_with fail
   refine HGp.out.mono ?_
   rintro e w1 ⟨rfl, hB1, hg1⟩
   have c0 : w1.cell? ⟨w.heap.size, 0, none⟩ = some (.string (rest s (k + n))) := hB1.cell (o := 0) rfl
   have hb1 : Below w.heap.size w w1 := Below.grown Hbel.out hg1 Hbel.out.size (fun _ e => by cases e; exact Nat.le_refl _)
   have hown1 := Hown.out.kept hg1 (.inr (fun e => Hne.out e))
   have Hb1 := Yq hb1; have HB1 := Yq hB1; have Hown1 := Yq hown1
   clear hb1 hg1 hB1 hown1
   have hr2 : (rest s (k + n)).size = s.size - (k + n) := rest_size _ _
   have Hl2 : Hid ((rest s (k + n)).data.toList = (l.drop k).drop n) := Yq (by rw [rest_list, Hl.out, List.drop_drop])
   have Hv1 := Yq (Hv.out.below Hb1.out)
   by_cases h0 : (rest s (k + n)).size = 0
   ·have hemp : (rest s (k + n)).toList.isEmpty = true := isEmpty_yes h0
    have Hend : Hid (Lx.splitN s.data.toList (1, 1) = .ok ts) := Yq (by
     have hnil : (l.drop k).drop n = [] := by rw [← Hl2.out]; exact List.eq_nil_of_length_eq_zero (by rw [len_data]; exact h0)
     rw [← Hl.out, Hsp.out, Lx.splitN_end hg (by rw [← Hn.out]; exact hnil)]
     simp [appO])
    clear hg h0
    go_wp2_with fail
    go_ret2
    rw [Hend.out]
    have hP := FlatV.of_owns (f := tC) (E := []) Hown1.out rfl (.inr (by simp))
    rw [fragE_nil] at hP
    exact ⟨_, rfl, hP, Hb1.out⟩
   ·have hemp : (rest s (k + n)).toList.isEmpty = false := isEmpty_no h0
    have HT := Yq (token_any A (rest s (k + n)) w1 Hv1.out (by omega) (by omega))
    rw [Hl2.out] at HT
    have hnn : (l.drop k).drop n ≠ [] := fun e => h0 (by rw [← len_data, Hl2.out, e]; rfl)
    have Hg := Yq hg
    have Hnn := Yq hnn
    clear hg hnn
    cases htok : Lx.token ((l.drop k).drop n) with
    | bad m =>
     rw [htok] at HT
     have Hend : Hid (Lx.splitN s.data.toList (1, 1) = .bad m q2) := Yq (by
      rw [← Hl.out, Hsp.out, Lx.splitN_err Hg.out (by rw [← Hn.out]; exact Hnn.out) (by rw [← Hn.out]; exact htok), ← Hn.out, ← Hq2.out]; rfl)
     clear htok
     go_upto_region 10 with (first
      | (go_at_call 21; (with_reducible refine HT.out.mono ?_); rintro e w2 ⟨⟨cs, v, hl5, h1, rfl⟩, hb2⟩; have HB2 := Yq (HB1.out.below hb2 HB1.out.lt); have Hb2 := Yq (Hb1.out.trans (hb2.mono Hb1.out.size)); have Hlt2 := Yq (Nat.lt_of_lt_of_le HB1.out.lt hb2.size); have H5 := Yq hl5; have H1 := Yq h1; unfold errV; clear c0 hb2 hl5 h1)
      | (refine wpList_alloc_lay rfl 80 rfl zT zeroT ?_; (intro w3 g3 hg3 hB3 hb3; have HB3 := Yq (HB2.out.below hb3 HB2.out.lt); have hne3 := Yq (show w.heap.size ≠ g3 from fun e => by have := Hlt2.out; omega); have Hb3 := Yq (Hb2.out.trans (hb3.mono Hb2.out.size)); have Hg3 := Yq (Nat.le_trans Hb2.out.size hg3); clear hb3 hg3))
      | (refine wpList_store_all rfl 80 _ _ rfl g3 cs rfl rfl zT hB3 ?_ ?_ H1.out ?_; (· exact infoT.trans (congrArg some H5.out.symm)); (· exact H5.out); (intro w4 hB4 hgr; have HB4 := Yq (HB3.out.grown hgr (fun e => hne3.out (Option.some.inj e))); have Hb4 := Yq (Below.grown Hb3.out hgr Hb3.out.size (fun _ e => by cases e; exact Hg3.out)); clear hgr hB4 hB3)))
     have c1 : w4.cell? ⟨w.heap.size, 1, none⟩ = some (.int .i64 q2.1) := HB4.out.cell (o := 1) rfl
     have c2 : w4.cell? ⟨w.heap.size, 2, none⟩ = some (.int .i64 q2.2) := HB4.out.cell (o := 2) rfl
     go_simp
     go_wp2_with fail
     go_region
     all_goals
      go_wp2
      go_ret2
      rw [Hend.out]
      exact ⟨w4.heap.size, rfl, ⟨75, heap_alloc_last w4 _⟩, Hb4.out.size, (Hb4.out.alloc Hb4.out.size _).drew⟩
    | ok y =>
     obtain ⟨kk, tx, x, m⟩ := y
     rw [htok] at HT
     replace HT : Hid (Calls Tryz.prog 21 #[.string (rest s (k + n))] w1 fun e w' => e = .returned (.tuple #[.agg #[.int .i64 kk, .string (toB tx), .int .i64 x, .int .i64 0, .int .i64 0], .int .i64 m, .nilIface]) ∧ Below w1.heap.size w1 w') := HT
     have hm := Lx.token_pos htok
     rw [List.length_drop, List.length_drop, Hll.out] at hm
     have Hnx : Hid (Lx.splitN s.data.toList (1, 1) = appO (ts ++ [⟨kk, tx, x, q2.1, q2.2⟩]) (Lx.splitN (s.data.toList.drop (k + n + m)) (Lx.adv (1, 1) (s.data.toList.take (k + n + m))))) := Yq (by
      rw [← Hl.out, Hsp.out, Lx.splitN_tok Hg.out (by rw [← Hn.out]; exact htok), ← Hn.out, ← Hq2.out, appO_cons, List.drop_drop, List.drop_drop, Hq.out, adv_two, ← Nat.add_assoc])
     have Hq3 : Hid (Lx.adv q2 ((rest s (k + n)).data.toList.take m) = Lx.adv (1, 1) (s.data.toList.take (k + n + m))) := Yq (by
      rw [Hl2.out, Hq2.out, Hq.out, adv_two, adv_two, Hl.out, ← Nat.add_assoc])
     clear htok
     go_upto_region 12 with (first
      | (go_at_call 21; (with_reducible refine HT.out.mono ?_); rintro e w2 ⟨rfl, hb2⟩; have HB2 := Yq (HB1.out.below hb2 HB1.out.lt); have Hb2 := Yq (Hb1.out.trans (hb2.mono Hb1.out.size)); have Hlt2 := Yq (Nat.lt_of_lt_of_le HB1.out.lt hb2.size); have Hown2 := Yq (owns_below Hown1.out hb2); clear c0 hb2)
      | (refine wpList_alloc_lay rfl 80 rfl zT zeroT ?_; (intro w3 g3 hg3 hB3 hb3; have HB3 := Yq (HB2.out.below hb3 HB2.out.lt); have hne3 := Yq (show w.heap.size ≠ g3 from fun e => by have := Hlt2.out; omega); have Hb3 := Yq (Hb2.out.trans (hb3.mono Hb2.out.size)); have Hg3 := Yq (Nat.le_trans Hb2.out.size hg3); have Hown3 := Yq (owns_below Hown2.out hb3); have Hno3 := Yq (own_ne Hown2.out hg3); clear hb3 hg3))
      | (refine wpList_store_all rfl 80 _ _ rfl g3 _ rfl rfl zT hB3 infoT rfl ?_ ?_; (· exact one_tok _ _ _ _ _); (intro w4 hB4 hgr; have HB4 := Yq (HB3.out.grown hgr (fun e => hne3.out (Option.some.inj e))); have Hb4 := Yq (Below.grown Hb3.out hgr Hb3.out.size (fun _ e => by cases e; exact Hg3.out)); have Hown4 := Yq (Hown3.out.kept hgr (.inr (fun e => Hno3.out e))); clear hgr hB3)))
     have c1 : w4.cell? ⟨w.heap.size, 1, none⟩ = some (.int .i64 q2.1) := HB4.out.cell (o := 1) rfl
     have c2 : w4.cell? ⟨w.heap.size, 2, none⟩ = some (.int .i64 q2.2) := HB4.out.cell (o := 2) rfl
     have d3 : w4.cell? ⟨g3, 3, none⟩ = some (.int .i64 0) := hB4.cell (o := 3) rfl
     have d4 : w4.cell? ⟨g3, 4, none⟩ = some (.int .i64 0) := hB4.cell (o := 4) rfl
     have f3 := hB4.frozen 3
     have f4 := hB4.frozen 4
     have n1 : ¬ (w.heap.size = g3) := hne3.out
     have n2 : ¬ (g3 = w.heap.size) := fun e => hne3.out e.symm
     have Hg4 := Yq hB4
     clear hB4
     go_simp
     go_region
     generalize hW : ((w4.setCell ⟨g3, 3, none⟩ (.int .i64 q2.1)).setCell ⟨g3, 4, none⟩ (.int .i64 q2.2)).drew = w5
     have hg45 : w4.grownBy w5 (some g3) := by
      have h := (grown_setCell w4 ⟨g3, 3, none⟩ (.int .i64 q2.1)).trans (grown_setCell (w4.setCell ⟨g3, 3, none⟩ (.int .i64 q2.1)) ⟨g3, 4, none⟩ (.int .i64 q2.2))
      rw [← hW]; exact ⟨h.os, h.tape, h.output, h.size, h.block⟩
     have Hg5 : Hid (Blk w5 g3 (tC ⟨kk, tx, x, q2.1, q2.2⟩)) := Yq (by
      have h := (Hg4.out.setCell (o := 3) (.int .i64 q2.1)).setCell (o := 4) (.int .i64 q2.2)
      rw [← hW]; exact h)
     have r9 : w5.rangeAt g3 0 [.int .i64 kk, .string (toB tx), .int .i64 x, .int .i64 q2.1, .int .i64 q2.2] := Hg5.out.whole
     have HB5 := Yq (HB4.out.grown hg45 (fun e => hne3.out (Option.some.inj e)))
     have Hown5 := Yq (Hown4.out.kept hg45 (.inr (fun e => Hno3.out e)))
     have hb5 := Below.grown Hb4.out hg45 Hb4.out.size (fun _ e => by cases e; exact Hg3.out)
     have Hb5 := Yq hb5
     have hs5 := hb5.size
     have hlen5 : (ts.length + 1) * 48 ≤ 140737488355328 := by omega
     have HPass : Hid (∀ v6 w6, w6.ownsRow w.heap.size 80 5 v6 (ts.length + 1) (ts.flatMap tC ++ [.int .i64 kk, .string (toB tx), .int .i64 x, .int .i64 q2.1, .int .i64 q2.2]) → w5.grownBy w6 u5.ownBlock → (v6.ownBlock = u5.ownBlock ∨ v6.ownBlock = some (w5.heap.size + 1)) →
       Calls Tryz.prog 22 #[.pointer (some ⟨w.heap.size, 0, none⟩), .int .i64 m] w6 fun e w7 => e = .returned (.tuple #[]) ∧ SplAt w w.heap.size s (k + n + m) v6 w7) := Yq (fun v6 w6 h5 h6 h7 => by
      have hB6 := HB5.out.grown h6 (fun e => Hne.out e.symm)
      have hne6 : v6.ownBlock ≠ some w.heap.size := ne_carry Hne.out HB5.out.lt (h7.imp_right fun h => ⟨_, h, by omega⟩)
      have hb6 := Below.of_grown Hb5.out Hown5.out h6 Hb5.out.size (Nat.le_refl _)
      refine (pass_int (rest s (k + n)) q2 m m w.heap.size w6 hB6 rfl (by omega) (by omega) (by omega) (by omega)).mono fun e w7 ⟨he, hB7, hg7⟩ => ⟨he, ts ++ [⟨kk, tx, x, q2.1, q2.2⟩], by omega, ?_, ?_, hne6, Below.grown hb6 hg7 hb6.size (fun _ e => by cases e; exact Nat.le_refl _), by simp; omega, Hnx.out⟩
      ·rw [← Hq3.out, ← rest_rest]; exact hB7
      ·have h8 := h5.kept hg7 (.inr (fun e => hne6 e))
       rw [List.length_append, List.flatMap_append]
       exact h8)
     clear hW hg45 c1 c2 d3 d4 f3 f4 n1 n2 hb5
     go_wp2_with (first
      | (refine wpList_load_seg rfl 80 _ rfl _ _ rfl _ _ r9 Tryz.underlying80 rfl infoT ?_)
      | (at_builtin; refine wpList_append_at T_tok rfl _ _ rfl #[_, _, _, _, _] rfl Hown5.out rfl rfl ?_ hlen5 hs5 ?_; (· exact one_tok _ _ _ _ _); (intro v6 w6 h5 h6 h7)))
     have hP := HPass.out v6 w6 h5 h6 h7
     clear h5 h6 h7
     refine hP.mono ?_
     rintro e w7 ⟨rfl, hfin⟩
     have Hfin := Yq hfin
     clear hP hfin
     go_wp2_with fail
     go_roundg (s.size - (k + n + m))
     case measure => omega
     case rel => exact ⟨k + n + m, by omega, Hfin.out⟩
end Go.Proofs.YtpcfdngnmigkfaaGreatDoor
