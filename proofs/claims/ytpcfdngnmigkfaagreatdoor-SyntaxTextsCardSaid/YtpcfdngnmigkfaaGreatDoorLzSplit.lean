/- The reference redlineref07, walked: a text's tokens. (printed by gen_lzsplit.py) -/
import Derived.Test.YtpcfdngnmigkfaaGreatDoorGroupM
set_option linter.unusedVariables false
set_option linter.unusedSimpArgs false
namespace Go.Proofs.YtpcfdngnmigkfaaGreatDoor
open Go.RowKit
theorem zeroRT : (Tryz.prog.info? 95).map (·.zero) = some (some (.agg zT.toArray)) := by kernel_rfl
theorem infoRT : (Tryz.prog.info? 95).map (·.size) = some 5 := by kernel_rfl
theorem T_rtok : SliceT Tryz.prog 52 95 (.agg zT.toArray) 5 48 := ⟨Tryz.underlying52, by kernel_rfl, rfl, by decide, by decide⟩
theorem number_bad {l : Lx.Bs} {q : Nat} (h : Lx.number l = .bad q) : q = 9 ∨ q = 1 := by
 unfold Lx.number at h
 split at h
 ·cases h; exact .inl rfl
 ·split at h
  ·cases h; exact .inr rfl
  ·cases h
theorem token_word {l : Lx.Bs} {b : UInt8} {r : Lx.Bs} (h : l = b :: r) (hi : Lx.inner b = true) : Lx.token l = wordOf l b (Lx.run Lx.inner l) := by
 subst h; unfold Lx.token wordOf; simp only; rw [if_pos hi]
 by_cases hf : Lx.figure b = true
 ·rw [if_pos hf, if_pos hf]; cases Lx.number (List.take (Lx.run Lx.inner (b :: r)) (b :: r)) <;> rfl
 ·rw [if_neg hf, if_neg hf]
theorem or_no {p q : Bool} (h : ¬ (p || q) = true) : p = false ∧ q = false := by cases p <;> cases q <;> simp_all
theorem results_tmp4 {P : Program} {fn : Func} {t u v x : Tmp} (h : fn.results = #[.tmp t, .tmp u, .tmp v, .tmp x]) (tmps : Array Value) (w : World) :
  (results fn tmps).run P w = .ok (.tuple #[tmps.getD t undef, tmps.getD u undef, tmps.getD v undef, tmps.getD x undef]) w := by
 simp [results, h, Sem.run_bind, Result.andThen]
def signL : Lx.Bs := [123, 125, 91, 93, 60, 62, 40, 41, 59, 61, 44, 46, 45]
def signC : List Value := [.int .u8 123, .int .u8 125, .int .u8 91, .int .u8 93, .int .u8 60, .int .u8 62, .int .u8 40, .int .u8 41, .int .u8 59, .int .u8 61, .int .u8 44, .int .u8 46, .int .u8 45]
theorem signC_at : ∀ i (h : i < 13), signC[i]'h = .int .u8 (signL[i]'h).toNat := by
 intro i h
 match i, h with
 | 0, _ => rfl
 | 1, _ => rfl
 | 2, _ => rfl
 | 3, _ => rfl
 | 4, _ => rfl
 | 5, _ => rfl
 | 6, _ => rfl
 | 7, _ => rfl
 | 8, _ => rfl
 | 9, _ => rfl
 | 10, _ => rfl
 | 11, _ => rfl
 | 12, _ => rfl
 | k + 13, h => exact absurd h (by omega)
theorem sizeB8 (w : World) : (Go.sizeOf (Tryz.prog.elem 98)).run Tryz.prog w = .ok 1 w := by kernel_rfl
theorem marks (b : UInt8) : (([34, 39] : Lx.Bs).contains b = true ∧ (((b.toNat : Int) == 34) = true ∨ (((b.toNat : Int) == 34) = false ∧ ((b.toNat : Int) == 39) = true))) ∨ (([34, 39] : Lx.Bs).contains b = false ∧ ((b.toNat : Int) == 34) = false ∧ ((b.toNat : Int) == 39) = false) := by
 have := all256 (fun b => decide ((([34, 39] : Lx.Bs).contains b = true ∧ (((b.toNat : Int) == 34) = true ∨ (((b.toNat : Int) == 34) = false ∧ ((b.toNat : Int) == 39) = true))) ∨ (([34, 39] : Lx.Bs).contains b = false ∧ ((b.toNat : Int) == 34) = false ∧ ((b.toNat : Int) == 39) = false))) (by decide +kernel) b
 exact of_decide_eq_true this
def RSplitPost (w : World) : Lx.Out → Ending → World → Prop
 | .ok ts, e, w' => ∃ v, e = .returned (.tuple #[v, .int .i64 0, .int .i64 0, .int .i64 0]) ∧ FlatV tC (frag w') v ts ∧ Below w.heap.size w w'
 | .bad n p, e, w' => e = .returned (.tuple #[.slice none 0 0, .int .i64 n, .int .i64 (p.1 : Nat), .int .i64 (p.2 : Nat)]) ∧ Below w.heap.size w w'
def RSplAt (w : World) (s : ByteArray) (k : Nat) (out : Value) (wr : World) : Prop :=
 ∃ ts : List Lx.Tok, k ≤ s.size ∧ wr.ownsRow w.heap.size 95 5 out ts.length (ts.flatMap tC) ∧ Below w.heap.size w wr ∧ ts.length ≤ k ∧
  Lx.splitN s.data.toList (1, 1) = appO ts (Lx.splitN (s.data.toList.drop k) (Lx.adv (1, 1) (s.data.toList.take k)))
set_option maxHeartbeats 2000000 in
set_option maxRecDepth 100000 in
theorem rsplit_long (s : ByteArray) (w : World) (hs : 4000 < s.size) (hm : s.size ≤ maxLen) :
  Calls Tryz.prog 12 #[.string s] w (RSplitPost w (.bad 3 (0, 0))) := by
 unfold maxLen at hm
 have hsz : (4000 : Int) < (s.size : Int) := by omega
 clear hs
 go_enter Tryz.func12, Tryz.ntmps12
 go_wp2
 refine bodyPost_ret (results_tmp4 rfl _ _) rfl ?_
 exact ⟨rfl, Below.refl _ _⟩
set_option maxHeartbeats 8000000 in
set_option maxRecDepth 100000 in
theorem rsplit_any (s : ByteArray) (w : World) (hs : ¬ 4000 < s.size) :
  Calls Tryz.prog 12 #[.string s] w (RSplitPost w (Lx.splitN s.data.toList (1, 1))) := by
 have hsz : (s.size : Int) ≤ 4000 := by omega
 have hszn : s.size ≤ 4000 := by omega
 clear hs
 go_enter Tryz.func12, Tryz.ntmps12
 go_wp2
 go_loopg [6, 7] s.size (fun g out at0 wr => ∃ k : Nat, at0 = .int .i64 k ∧ k + g = s.size ∧ RSplAt w s k out wr)
 case atStart => exact ⟨0, rfl, by omega, [], Nat.zero_le _, World.ownsRow_lit w #[] 0 (Nat.le_refl _) (by decide) rfl, (Below.refl _ _).alloc (Nat.le_refl _) _, Nat.le_refl _, by rw [appO_nil]; rfl⟩
 case round =>
  obtain ⟨k, rfl, hkg, ts, hk, hown, hbel, hts, hsp⟩ := hrel
  obtain ⟨l, hl⟩ : ∃ l, l = s.data.toList := ⟨_, rfl⟩
  have HSk := Yq (fun w0 => rskip_any s k w0 hk (by omega))
  rw [← hl] at hsp HSk
  have hll : l.length = s.size := by rw [hl, len_data]
  have hgl := Lx.gapN_le (l.drop k).length (l.drop k) (Nat.le_refl _)
  rw [List.length_drop] at hgl
  obtain ⟨n, hn⟩ : ∃ n, n = (Lx.gapN (l.drop k)).1 := ⟨_, rfl⟩
  rw [← hn] at HSk hgl
  obtain ⟨a, ha⟩ : ∃ a, a = k + n := ⟨_, rfl⟩
  rw [← ha] at HSk
  have hal : a ≤ s.size := by omega
  have hka : k ≤ a := by omega
  have htsa : ts.length ≤ a := by omega
  have hga : s.size - a ≤ gk := by omega
  have HPl := Yq (fun w0 => rplace_any s a w0 hal (by omega))
  rw [← hl] at HPl
  have hadv := Lx.adv_le (1, 1) (l.take a)
  rw [List.length_take] at hadv
  have Hq : Hid (Lx.adv (Lx.adv (1, 1) (l.take k)) ((l.drop k).take n) = Lx.adv (1, 1) (l.take a)) := Yq (by rw [adv_two, ha])
  have Hsp : Hid (Lx.splitN s.data.toList (1, 1) = appO ts (Lx.splitN (l.drop k) (Lx.adv (1, 1) (l.take k)))) := Yq (by rw [← hl]; exact hsp)
  obtain ⟨q, hq⟩ : ∃ q, q = Lx.adv (1, 1) (l.take a) := ⟨_, rfl⟩
  rw [← hq] at HPl hadv Hq
  have hd2 : (l.drop k).drop n = l.drop a := by rw [List.drop_drop, ha]
  have Hn := Yq hn; have Ha := Yq ha; have Hqq := Yq hq; have Hl := Yq hl; have Hll := Yq hll; have Hown := Yq hown; have Hbel := Yq hbel; have Hd2 := Yq hd2; have Hwr := Yq hbel.size
  clear hn ha hq hl hll hown hbel hsp hd2
  obtain ⟨q1, q2⟩ := q
  simp only at hadv HPl
  cases hg : (Lx.gapN (l.drop k)).2
  ·rw [hg] at HSk
   have Hend : Hid (Lx.splitN s.data.toList (1, 1) = .bad 9 (q1, q2)) := Yq (by
    rw [Hsp.out, Lx.splitN_bad hg, ← Hn.out, Hq.out]; rfl)
   clear hg
   go_wp2_with (first | (go_at_call 29; (with_reducible refine (HSk.out _).mono ?_); rintro e w1 ⟨rfl, rfl⟩) | (go_at_call 30; (with_reducible refine (HPl.out _).mono ?_); rintro e w2 ⟨rfl, rfl⟩))
   refine bodyPost_ret (results_tmp4 rfl _ _) rfl ?_
   rw [Hend.out]
   exact ⟨rfl, Hbel.out⟩
  ·rw [hg] at HSk
   by_cases h0 : a = s.size
   ·have Hend : Hid (Lx.splitN s.data.toList (1, 1) = .ok ts) := Yq (by
     rw [Hsp.out, Lx.splitN_end hg (by rw [← Hn.out, Hd2.out]; exact List.drop_of_length_le (by rw [Hll.out]; omega))]
     simp [appO])
    have haz : (s.size : Int) ≤ (a : Int) := by omega
    clear hg h0
    go_wp2_with (first | (go_at_call 29; (with_reducible refine (HSk.out _).mono ?_); rintro e w1 ⟨rfl, rfl⟩) | (go_at_call 30; (with_reducible refine (HPl.out _).mono ?_); rintro e w2 ⟨rfl, rfl⟩))
    refine bodyPost_ret (results_tmp4 rfl _ _) rfl ?_
    rw [Hend.out]
    have hP := FlatV.of_owns (f := tC) (E := []) Hown.out rfl (.inr (by simp))
    rw [fragE_nil] at hP
    exact ⟨_, rfl, hP, Hbel.out⟩
   ·have haz : (a : Int) < (s.size : Int) := by omega
    have has : a < s.size := by omega
    have Hnx : Hid (∀ kk tx x m, Lx.token (l.drop a) = .ok (kk, tx, x, m) → Lx.splitN s.data.toList (1, 1) = appO (ts ++ [⟨kk, tx, x, q1, q2⟩]) (Lx.splitN (s.data.toList.drop (a + m)) (Lx.adv (1, 1) (s.data.toList.take (a + m))))) := Yq (fun kk tx x m htok => by
     rw [Hsp.out, Lx.splitN_tok hg (by rw [← Hn.out, Hd2.out]; exact htok), ← Hn.out, Hd2.out, Hq.out, appO_cons, List.drop_drop, ← adv_two (1, 1) (s.data.toList) a m, ← Hl.out]
     congr 2
     rw [adv_two, adv_two, show k + (n + m) = a + m by have := Ha.out; omega])
    have Hbd : Hid (∀ m, Lx.token (l.drop a) = .bad m → Lx.splitN s.data.toList (1, 1) = .bad m (q1, q2)) := Yq (fun m htok => by
     rw [Hsp.out, Lx.splitN_err hg (by rw [← Hn.out, Hd2.out]; intro e; have := congrArg List.length e; rw [List.length_drop, Hll.out] at this; simp at this; omega) (by rw [← Hn.out, Hd2.out]; exact htok), ← Hn.out, Hq.out]; rfl)
    have hal2 : a < l.length := by rw [Hll.out]; exact has
    have hbyte : s[a] = l[a] := by have := Hl.out; subst this; rfl
    have hdrop := drop_at l hal2
    rw [← hbyte] at hdrop
    have Hdrop := Yq hdrop
    clear hg h0 hbyte hdrop Hsp
    have HLt := Yq (fun w0 => rletter_any s[a] w0)
    have HFg := Yq (fun w0 => rfigure_any s[a] w0)
    go_upto_region 13 with (first
     | (go_at_call 29; (with_reducible refine (HSk.out _).mono ?_); rintro e w1 ⟨rfl, rfl⟩)
     | (go_at_call 30; (with_reducible refine (HPl.out _).mono ?_); rintro e w2 ⟨rfl, rfl⟩)
     | (refine wpList_alloc_lay rfl 95 rfl zT zeroRT ?_; (intro w3 g3 hg3 hB3 hb3; have Hb3 := Yq (Hbel.out.trans (hb3.mono Hwr.out)); have Hg3 := Yq (Nat.le_trans Hwr.out hg3); have Hown3 := Yq (owns_below Hown.out hb3); have Hno3 := Yq (own_ne Hown.out hg3); clear hb3 hg3))
     | (refine wpList_store_all rfl 95 _ _ rfl g3 _ rfl rfl zT hB3 infoRT rfl ?_ ?_; (· exact one_tok _ _ _ _ _); (intro w4 hB4 hgr; have Hb4 := Yq (Below.grown Hb3.out hgr Hb3.out.size (fun _ e => by cases e; exact Hg3.out)); have Hown4 := Yq (Hown3.out.kept hgr (.inr (fun e => Hno3.out e))); clear hgr hB3)))
    go_simp
    have HB4 : Hid (Blk w4 g3 (tokC 0 [] 0 q1 q2)) := Yq hB4
    clear hB4
    cases hf : Lx.figure s[a]
    ·rw [hf] at HFg
     cases hlt0 : Lx.letter s[a]
     ·have hni : Lx.inner s[a] = false := by rw [inner_or, hf, hlt0]; rfl
      rw [hlt0] at HLt
      have htk := token_eq s[a] (l.drop (a + 1))
      rw [← Hdrop.out, hni, if_neg (by decide)] at htk
      have hq2 : (([34, 39] : Lx.Bs).contains s[a] = true ∧ (((s[a].toNat : Int) == 34) = true ∨ (((s[a].toNat : Int) == 34) = false ∧ ((s[a].toNat : Int) == 39) = true))) ∨ (([34, 39] : Lx.Bs).contains s[a] = false ∧ ((s[a].toNat : Int) == 34) = false ∧ ((s[a].toNat : Int) == 39) = false) := marks s[a]
      clear hf hlt0 hni
      go_upto_region 34 with (first
       | (go_at_call 31; (with_reducible refine (HLt.out _).mono ?_); rintro e0 w3 ⟨rfl, rfl⟩)
       | (go_at_call 32; (with_reducible refine (HFg.out _).mono ?_); rintro e0 w3 ⟨rfl, rfl⟩))
      clear HLt HFg
      generalize s[a] = c at *
      rcases hq2 with ⟨hc, hq2⟩ | ⟨hc, h34, h39⟩
      ·rw [if_pos hc] at htk
       have Htk := Yq htk
       clear htk hc
       rcases hq2 with h34 | ⟨h34, h39⟩
       all_goals
        go_wp2_with fail
        go_loop [13, 14] (fun i b => ∃ (e : Nat) (x : Int), i = .int .i64 e ∧ b = .int .i64 x ∧ a + 1 ≤ e ∧ e ≤ s.size ∧ Hid (x = if ((l.drop (a + 1)).take (e - (a + 1))).any (fun c => c == 92 || c == 10) then (9 : Int) else 0) ∧ Lx.idx1 c (l.drop (a + 1)) = (Lx.idx1 c (l.drop e)).map (· + (e - (a + 1)))) (fun i _ => s.size - (intOf i).toNat)
        case atStart => exact ⟨a + 1, 0, by go_num, rfl, by omega, by omega, Yq (by simp), by simp⟩
        case round =>
         obtain ⟨e, x, rfl, rfl, hae, hes, Hx, hr⟩ := hrel
         have Hr := Yq hr
         clear hr
         by_cases hlt : e < s.size
         ·have hel : e < l.length := by rw [Hll.out]; exact hlt
          have hb : s[e] = l[e] := by have := Hl.out; subst this; rfl
          have hd := drop_at l hel
          rw [← hb] at hd
          by_cases hec : s[e] = c
          ·have heq : ((s[e].toNat : Int) == (c.toNat : Int)) = true := by rw [hec]; exact beq_self_eq_true _
           have hes2 : ((e : Int) == (s.size : Int)) = false := by rw [beq_eq_false_iff_ne]; omega
           obtain ⟨d, hde⟩ : ∃ d, e - (a + 1) = d := ⟨_, rfl⟩
           have Hix : Hid (Lx.idx1 c (l.drop (a + 1)) = some d) := Yq (by rw [Hr.out, hd, Lx.idx1, if_pos hec]; simp; exact hde)
           rw [hde] at Hx
           clear hd hb hec
           cases hany : ((l.drop (a + 1)).take d).any (fun c => c == 92 || c == 10)
           ·obtain rfl : x = 0 := by rw [Hx.out, hany]; rfl
            have Htok : Hid (Lx.token (l.drop a) = .ok (3, ((l.drop (a + 1)).take d), 0, d + 2)) := Yq (by rw [Htk.out]; unfold textOf; rw [Hix.out]; simp only; rw [hany]; rfl)
            clear hany
            have Hext : Hid (s.extract (a + 1) e = toB ((l.drop (a + 1)).take d)) := Yq (by rw [extract_mid, ← Hl.out, hde])
            go_upto_region 42 with fail
            have d0 : w4.cell? ⟨g3, 0, none⟩ = some (.int .i64 0) := HB4.out.cell (o := 0) rfl
            have d1 : w4.cell? ⟨g3, 1, none⟩ = some (.string ⟨#[]⟩) := HB4.out.cell (o := 1) rfl
            have f0 := HB4.out.frozen 0
            have f1 := HB4.out.frozen 1
            go_region
            generalize hW : ((w4.setCell ⟨g3, 0, none⟩ (.int .i64 3)).setCell ⟨g3, 1, none⟩ (.string (s.extract (a + 1) e))).drew = w5
            have hg45 : w4.grownBy w5 (some g3) := by
             have h := (grown_setCell w4 ⟨g3, 0, none⟩ (.int .i64 3)).trans (grown_setCell (w4.setCell ⟨g3, 0, none⟩ (.int .i64 3)) ⟨g3, 1, none⟩ (.string (s.extract (a + 1) e)))
             rw [← hW]; exact ⟨h.os, h.tape, h.output, h.size, h.block⟩
            have Hbz : Hid (Below w.heap.size w w5) := Yq (Below.grown Hb4.out hg45 Hb4.out.size (fun _ e => by cases e; exact Hg3.out))
            have Hownz : Hid (w5.ownsRow w.heap.size 95 5 u6 ts.length (ts.flatMap tC)) := Yq (Hown4.out.kept hg45 (.inr (fun e => Hno3.out e)))
            have HBz : Hid (Blk w5 g3 [.int .i64 3, .string (toB ((l.drop (a + 1)).take d)), .int .i64 0, .int .i64 q1, .int .i64 q2]) := Yq (by
             have h := (HB4.out.setCell (o := 0) (.int .i64 3)).setCell (o := 1) (.string (s.extract (a + 1) e))
             rw [Hext.out] at h hW
             rw [← hW]; exact h)
            clear hW hg45 d0 d1 f0 f1
            go_upto_region 46 with fail
            go_simp
            have r9 : w5.rangeAt g3 0 [.int .i64 3, .string (toB ((l.drop (a + 1)).take d)), .int .i64 0, .int .i64 q1, .int .i64 q2] := HBz.out.whole
            have hs5 := Hbz.out.size
            have hlen5 : (ts.length + 1) * 48 ≤ 140737488355328 := by omega
            go_wp2_with (first
             | (refine wpList_load_seg rfl 95 _ rfl _ _ rfl _ _ r9 Tryz.underlying95 rfl infoRT ?_)
             | (at_builtin; refine wpList_append_at T_rtok rfl _ _ rfl #[_, _, _, _, _] rfl Hownz.out rfl rfl ?_ hlen5 hs5 ?_; (· exact one_tok _ _ _ _ _); (intro v6 w6 h5 h6 h7)))
            have HR6 : Hid (RSplAt w s (a + (d + 2)) v6 w6) := Yq ⟨ts ++ [⟨3, ((l.drop (a + 1)).take d), 0, q1, q2⟩], by omega, by
              rw [List.length_append, List.flatMap_append]; exact h5, Below.of_grown Hbz.out Hownz.out h6 Hbz.out.size (Nat.le_refl _), by simp; omega, Hnx.out 3 ((l.drop (a + 1)).take d) 0 ((d + 2)) Htok.out⟩
            clear h5 h6 h7
            go_roundg (s.size - (a + (d + 2)))
            case measure => omega
            case rel => exact ⟨a + (d + 2), by go_num, by omega, HR6.out⟩
           ·obtain rfl : x = 9 := by rw [Hx.out, hany]; rfl
            have Htok : Hid (Lx.token (l.drop a) = .bad 9) := Yq (by rw [Htk.out]; unfold textOf; rw [Hix.out]; simp only; rw [hany]; rfl)
            clear hany
            have Hext : Hid (s.extract (a + 1) e = toB ((l.drop (a + 1)).take d)) := Yq (by rw [extract_mid, ← Hl.out, hde])
            go_upto_region 42 with fail
            have d0 : w4.cell? ⟨g3, 0, none⟩ = some (.int .i64 0) := HB4.out.cell (o := 0) rfl
            have d1 : w4.cell? ⟨g3, 1, none⟩ = some (.string ⟨#[]⟩) := HB4.out.cell (o := 1) rfl
            have f0 := HB4.out.frozen 0
            have f1 := HB4.out.frozen 1
            go_region
            generalize hW : ((w4.setCell ⟨g3, 0, none⟩ (.int .i64 3)).setCell ⟨g3, 1, none⟩ (.string (s.extract (a + 1) e))).drew = w5
            have hg45 : w4.grownBy w5 (some g3) := by
             have h := (grown_setCell w4 ⟨g3, 0, none⟩ (.int .i64 3)).trans (grown_setCell (w4.setCell ⟨g3, 0, none⟩ (.int .i64 3)) ⟨g3, 1, none⟩ (.string (s.extract (a + 1) e)))
             rw [← hW]; exact ⟨h.os, h.tape, h.output, h.size, h.block⟩
            have Hbz : Hid (Below w.heap.size w w5) := Yq (Below.grown Hb4.out hg45 Hb4.out.size (fun _ e => by cases e; exact Hg3.out))
            have Hownz : Hid (w5.ownsRow w.heap.size 95 5 u6 ts.length (ts.flatMap tC)) := Yq (Hown4.out.kept hg45 (.inr (fun e => Hno3.out e)))
            have HBz : Hid (Blk w5 g3 [.int .i64 3, .string (toB ((l.drop (a + 1)).take d)), .int .i64 0, .int .i64 q1, .int .i64 q2]) := Yq (by
             have h := (HB4.out.setCell (o := 0) (.int .i64 3)).setCell (o := 1) (.string (s.extract (a + 1) e))
             rw [Hext.out] at h hW
             rw [← hW]; exact h)
            clear hW hg45 d0 d1 f0 f1
            go_wp2_with fail
            refine bodyPost_ret (results_tmp4 rfl _ _) rfl ?_
            rw [Hbd.out 9 Htok.out]
            exact ⟨rfl, Hbz.out⟩
          ·have heq : ((s[e].toNat : Int) == (c.toNat : Int)) = false := by
            rw [beq_eq_false_iff_ne]; intro h; exact hec (UInt8.toNat_inj.1 (by omega))
           have Hr2 : Hid (Lx.idx1 c (l.drop (a + 1)) = (Lx.idx1 c (l.drop (e + 1))).map (· + (e + 1 - (a + 1)))) := Yq (by
            rw [Hr.out, hd, Lx.idx1, if_neg hec]
            cases Lx.idx1 c (l.drop (e + 1)) with
            | none => rfl
            | some y => simp; omega)
           have hany2 : ((l.drop (a + 1)).take (e + 1 - (a + 1))).any (fun c => c == 92 || c == 10) = (((l.drop (a + 1)).take (e - (a + 1))).any (fun c => c == 92 || c == 10) || (s[e] == 92 || s[e] == 10)) := by
            rw [show e + 1 - (a + 1) = (e - (a + 1)) + 1 by omega, List.take_add, List.drop_drop, show a + 1 + (e - (a + 1)) = e by omega, hd, List.any_append]
            simp
           clear hec
           by_cases h92 : s[e] = 92
           ·have z92 : ((s[e].toNat : Int) == 92) = true := by rw [h92]; rfl
            have h10 := h92
            rw [h92] at hany2
            rw [show ((92 : UInt8) == 92 || (92 : UInt8) == 10) = true by decide, Bool.or_true] at hany2
            have Hx2 : Hid (9 = if ((l.drop (a + 1)).take (e + 1 - (a + 1))).any (fun c => c == 92 || c == 10) then (9 : Int) else 0) := Yq (by rw [hany2, if_pos rfl])
            clear hany2 hd hb h92 h10
            go_wp2_with fail
            go_round
            case rel => exact ⟨e + 1, 9, by go_num, rfl, by omega, by omega, Hx2, Hr2.out⟩
            case measure => simp [intOf]; omega
           ·have z92 : ((s[e].toNat : Int) == 92) = false := by
             rw [beq_eq_false_iff_ne]; intro h; exact h92 (UInt8.toNat_inj.1 (by show s[e].toNat = 92; omega))
            by_cases h10 : s[e] = 10
            ·have z10 : ((s[e].toNat : Int) == 10) = true := by rw [h10]; rfl
             rw [h10] at hany2
             rw [show ((10 : UInt8) == 92 || (10 : UInt8) == 10) = true by decide, Bool.or_true] at hany2
             have Hx2 : Hid (9 = if ((l.drop (a + 1)).take (e + 1 - (a + 1))).any (fun c => c == 92 || c == 10) then (9 : Int) else 0) := Yq (by rw [hany2, if_pos rfl])
             clear hany2 hd hb h92 h10
             go_wp2_with fail
             go_round
             case rel => exact ⟨e + 1, 9, by go_num, rfl, by omega, by omega, Hx2, Hr2.out⟩
             case measure => simp [intOf]; omega
            ·have z10 : ((s[e].toNat : Int) == 10) = false := by
              rw [beq_eq_false_iff_ne]; intro h; exact h10 (UInt8.toNat_inj.1 (by show s[e].toNat = 10; omega))
             rw [show (s[e] == 92 || s[e] == 10) = false by rw [Bool.or_eq_false_iff, beq_eq_false_iff_ne, beq_eq_false_iff_ne]; exact ⟨h92, h10⟩, Bool.or_false] at hany2
             have Hx2 : Hid (x = if ((l.drop (a + 1)).take (e + 1 - (a + 1))).any (fun c => c == 92 || c == 10) then (9 : Int) else 0) := Yq (by rw [hany2, ← Hx.out])
             clear hany2 hd hb h92 h10
             go_wp2_with fail
             go_round
             case rel => exact ⟨e + 1, x, by go_num, rfl, by omega, by omega, Hx2, Hr2.out⟩
             case measure => simp [intOf]; omega
         ·have hee : (s.size : Int) ≤ (e : Int) := by omega
          have hes2 : ((e : Int) == (s.size : Int)) = true := by rw [beq_iff_eq]; omega
          have Htok : Hid (Lx.token (l.drop a) = .bad 9) := Yq (by
           rw [Htk.out]; unfold textOf; rw [Hr.out, List.drop_of_length_le (by rw [Hll.out]; omega)]; rfl)
          clear hlt
          go_wp2_with fail
          refine bodyPost_ret (results_tmp4 rfl _ _) rfl ?_
          rw [Hbd.out 9 Htok.out]
          exact ⟨rfl, Hb4.out⟩
      ·rw [hc, if_neg (by decide)] at htk
       have Htk := Yq htk
       clear htk hc
       have HB8 : Hid (Blk (w4.alloc (.cells #[.int .u8 123, .int .u8 125, .int .u8 91, .int .u8 93, .int .u8 60, .int .u8 62, .int .u8 40, .int .u8 41, .int .u8 59, .int .u8 61, .int .u8 44, .int .u8 46, .int .u8 45] 5)) g3 (tokC 0 [] 0 q1 q2)) := Yq (HB4.out.below ((Below.refl _ _).alloc (Nat.le_refl _) _) HB4.out.lt)
       have Hb8 : Hid (Below w.heap.size w (w4.alloc (.cells #[.int .u8 123, .int .u8 125, .int .u8 91, .int .u8 93, .int .u8 60, .int .u8 62, .int .u8 40, .int .u8 41, .int .u8 59, .int .u8 61, .int .u8 44, .int .u8 46, .int .u8 45] 5))) := Yq (Hb4.out.trans (((Below.refl _ _).alloc (Nat.le_refl _) _).mono Hb4.out.size))
       have Hown8 : Hid ((w4.alloc (.cells #[.int .u8 123, .int .u8 125, .int .u8 91, .int .u8 93, .int .u8 60, .int .u8 62, .int .u8 40, .int .u8 41, .int .u8 59, .int .u8 61, .int .u8 44, .int .u8 46, .int .u8 45] 5)).ownsRow w.heap.size 95 5 u6 ts.length (ts.flatMap tC)) := Yq (owns_below Hown4.out ((Below.refl _ _).alloc (Nat.le_refl _) _))
       have HR : Hid (Row (w4.alloc (.cells #[.int .u8 123, .int .u8 125, .int .u8 91, .int .u8 93, .int .u8 60, .int .u8 62, .int .u8 40, .int .u8 41, .int .u8 59, .int .u8 61, .int .u8 44, .int .u8 46, .int .u8 45] 5)) (some ⟨w4.heap.size, 0, none⟩) signC) := Yq (by
        refine .inr ⟨w4.heap.size, 0, rfl, by simp, fun i hi => ?_⟩
        rw [Nat.zero_add, World.cell?_alloc_at _ _ _ _ rfl]
        show (signC.toArray)[i]? = _
        simp)
       go_wp2_with fail
       generalize w4.alloc (.cells #[.int .u8 123, .int .u8 125, .int .u8 91, .int .u8 93, .int .u8 60, .int .u8 62, .int .u8 40, .int .u8 41, .int .u8 59, .int .u8 61, .int .u8 44, .int .u8 46, .int .u8 45] 5) = w8 at *
       generalize w4.heap.size = g8 at *
       go_loop [53, 14] (fun i b => ∃ (j : Nat) (x : Int), i = .int .i64 j ∧ b = .int .i64 x ∧ j ≤ 13 ∧ Hid (x = if (signL.take j).contains c then (0 : Int) else 9)) (fun i _ => 13 - (intOf i).toNat)
       case atStart => exact ⟨0, 9, rfl, rfl, by omega, Yq (by simp)⟩
       case round =>
        obtain ⟨j, x, rfl, rfl, hj, Hx⟩ := hrel
        by_cases hlt : j < 13
        ·obtain ⟨b, o, hbb, hidx, hcell⟩ := idx (P := Tryz.prog) (t := 98) (n := 13) (cap := 13) HR.out (i := j) hlt rfl Tryz.underlying98 sizeB8
         replace hcell := hcell.trans (congrArg some (signC_at j hlt))
         have hjl : j < signL.length := hlt
         have hst : (signL.take (j + 1)).contains c = ((signL.take j).contains c || c == signL[j]) := by
          rw [List.take_succ_eq_append_getElem hjl, List.contains_append, List.contains_cons, List.contains_nil, Bool.or_false]
         generalize signL[j] = y at *
         by_cases hcy : c = y
         ·have heq : ((c.toNat : Int) == (y.toNat : Int)) = true := by rw [hcy]; exact beq_self_eq_true _
          have Hx2 : Hid ((0 : Int) = if (signL.take (j + 1)).contains c then (0 : Int) else 9) := Yq (by rw [hst, hcy]; simp)
          clear hst hcy
          go_wp2_with fail
          go_round
          case rel => exact ⟨j + 1, 0, by go_num, rfl, by omega, Hx2⟩
          case measure => simp [intOf]; omega
         ·have heq : ((c.toNat : Int) == (y.toNat : Int)) = false := by
           rw [beq_eq_false_iff_ne]; intro h; exact hcy (UInt8.toNat_inj.1 (by omega))
          have Hx2 : Hid (x = if (signL.take (j + 1)).contains c then (0 : Int) else 9) := Yq (by rw [hst, beq_eq_false_iff_ne.2 hcy, Bool.or_false]; exact Hx.out)
          clear hst hcy
          go_wp2_with fail
          go_round
          case rel => exact ⟨j + 1, x, by go_num, rfl, by omega, Hx2⟩
          case measure => simp [intOf]; omega
        ·obtain rfl : j = 13 := by omega
         have Hxx : Hid (x = if Lx.isSign c then (0 : Int) else 9) := Yq Hx.out
         cases hsg : Lx.isSign c
         ·obtain rfl : x = 9 := by rw [Hxx.out, hsg]; rfl
          have Htok : Hid (Lx.token (l.drop a) = .bad 9) := Yq (by rw [Htk.out, hsg]; rfl)
          clear hsg
          have Hext : Hid (s.extract a (a + 1) = toB [c]) := Yq (by rw [extract_mid, ← Hl.out, show a + 1 - a = 1 by omega, Hdrop.out]; rfl)
          go_upto_region 24 with fail
          have d0 : w8.cell? ⟨g3, 0, none⟩ = some (.int .i64 0) := HB8.out.cell (o := 0) rfl
          have d1 : w8.cell? ⟨g3, 1, none⟩ = some (.string ⟨#[]⟩) := HB8.out.cell (o := 1) rfl
          have f0 := HB8.out.frozen 0
          have f1 := HB8.out.frozen 1
          go_region
          generalize hW : ((w8.setCell ⟨g3, 0, none⟩ (.int .i64 4)).setCell ⟨g3, 1, none⟩ (.string (s.extract a (a + 1)))).drew = w5
          have hg45 : w8.grownBy w5 (some g3) := by
           have h := (grown_setCell w8 ⟨g3, 0, none⟩ (.int .i64 4)).trans (grown_setCell (w8.setCell ⟨g3, 0, none⟩ (.int .i64 4)) ⟨g3, 1, none⟩ (.string (s.extract a (a + 1))))
           rw [← hW]; exact ⟨h.os, h.tape, h.output, h.size, h.block⟩
          have Hbz : Hid (Below w.heap.size w w5) := Yq (Below.grown Hb8.out hg45 Hb8.out.size (fun _ e => by cases e; exact Hg3.out))
          have Hownz : Hid (w5.ownsRow w.heap.size 95 5 u6 ts.length (ts.flatMap tC)) := Yq (Hown8.out.kept hg45 (.inr (fun e => Hno3.out e)))
          have HBz : Hid (Blk w5 g3 [.int .i64 4, .string (toB [c]), .int .i64 0, .int .i64 q1, .int .i64 q2]) := Yq (by
           have h := (HB8.out.setCell (o := 0) (.int .i64 4)).setCell (o := 1) (.string (s.extract a (a + 1)))
           rw [Hext.out] at h hW
           rw [← hW]; exact h)
          clear hW hg45 d0 d1 f0 f1
          go_wp2_with fail
          refine bodyPost_ret (results_tmp4 rfl _ _) rfl ?_
          rw [Hbd.out 9 Htok.out]
          exact ⟨rfl, Hbz.out⟩
         ·obtain rfl : x = 0 := by rw [Hxx.out, hsg]; rfl
          have Htok : Hid (Lx.token (l.drop a) = .ok (4, [c], 0, 1)) := Yq (by rw [Htk.out, hsg]; rfl)
          clear hsg
          have Hext : Hid (s.extract a (a + 1) = toB [c]) := Yq (by rw [extract_mid, ← Hl.out, show a + 1 - a = 1 by omega, Hdrop.out]; rfl)
          go_upto_region 24 with fail
          have d0 : w8.cell? ⟨g3, 0, none⟩ = some (.int .i64 0) := HB8.out.cell (o := 0) rfl
          have d1 : w8.cell? ⟨g3, 1, none⟩ = some (.string ⟨#[]⟩) := HB8.out.cell (o := 1) rfl
          have f0 := HB8.out.frozen 0
          have f1 := HB8.out.frozen 1
          go_region
          generalize hW : ((w8.setCell ⟨g3, 0, none⟩ (.int .i64 4)).setCell ⟨g3, 1, none⟩ (.string (s.extract a (a + 1)))).drew = w5
          have hg45 : w8.grownBy w5 (some g3) := by
           have h := (grown_setCell w8 ⟨g3, 0, none⟩ (.int .i64 4)).trans (grown_setCell (w8.setCell ⟨g3, 0, none⟩ (.int .i64 4)) ⟨g3, 1, none⟩ (.string (s.extract a (a + 1))))
           rw [← hW]; exact ⟨h.os, h.tape, h.output, h.size, h.block⟩
          have Hbz : Hid (Below w.heap.size w w5) := Yq (Below.grown Hb8.out hg45 Hb8.out.size (fun _ e => by cases e; exact Hg3.out))
          have Hownz : Hid (w5.ownsRow w.heap.size 95 5 u6 ts.length (ts.flatMap tC)) := Yq (Hown8.out.kept hg45 (.inr (fun e => Hno3.out e)))
          have HBz : Hid (Blk w5 g3 [.int .i64 4, .string (toB [c]), .int .i64 0, .int .i64 q1, .int .i64 q2]) := Yq (by
           have h := (HB8.out.setCell (o := 0) (.int .i64 4)).setCell (o := 1) (.string (s.extract a (a + 1)))
           rw [Hext.out] at h hW
           rw [← hW]; exact h)
          clear hW hg45 d0 d1 f0 f1
          go_upto_region 46 with fail
          go_simp
          have r9 : w5.rangeAt g3 0 [.int .i64 4, .string (toB [c]), .int .i64 0, .int .i64 q1, .int .i64 q2] := HBz.out.whole
          have hs5 := Hbz.out.size
          have hlen5 : (ts.length + 1) * 48 ≤ 140737488355328 := by omega
          go_wp2_with (first
           | (refine wpList_load_seg rfl 95 _ rfl _ _ rfl _ _ r9 Tryz.underlying95 rfl infoRT ?_)
           | (at_builtin; refine wpList_append_at T_rtok rfl _ _ rfl #[_, _, _, _, _] rfl Hownz.out rfl rfl ?_ hlen5 hs5 ?_; (· exact one_tok _ _ _ _ _); (intro v6 w6 h5 h6 h7)))
          have HR6 : Hid (RSplAt w s (a + 1) v6 w6) := Yq ⟨ts ++ [⟨4, [c], 0, q1, q2⟩], by omega, by
            rw [List.length_append, List.flatMap_append]; exact h5, Below.of_grown Hbz.out Hownz.out h6 Hbz.out.size (Nat.le_refl _), by simp; omega, Hnx.out 4 [c] 0 (1) Htok.out⟩
          clear h5 h6 h7
          go_roundg (s.size - (a + 1))
          case measure => omega
          case rel => exact ⟨a + 1, by go_num, by omega, HR6.out⟩
     ·rw [hlt0] at HLt
      have hin : Lx.inner s[a] = true := by rw [inner_or, hlt0]; rfl
      have Hf := Yq hf
      clear hf hlt0
      go_wp2_with (first | (go_at_call 31; (with_reducible refine (HLt.out _).mono ?_); rintro e0 w3 ⟨rfl, rfl⟩) | (go_at_call 32; (with_reducible refine (HFg.out _).mono ?_); rintro e0 w3 ⟨rfl, rfl⟩))
      go_loop [13] (fun i => ∃ e : Nat, i = .int .i64 e ∧ a ≤ e ∧ e ≤ s.size ∧ Lx.run Lx.inner (l.drop a) = Lx.run Lx.inner (l.drop e) + (e - a)) (fun i => s.size - (intOf i).toNat)
      case atStart => exact ⟨a, rfl, Nat.le_refl _, hal, by simp⟩
      case round =>
       obtain ⟨e, rfl, hae, hes, hr⟩ := hrel
       by_cases hlt : e < s.size
       ·have hel : e < l.length := by rw [Hll.out]; exact hlt
        have hb : s[e] = l[e] := by have := Hl.out; subst this; rfl
        have hd := drop_at l hel
        rw [← hb] at hd
        have HLe := Yq (fun w0 => rletter_any s[e] w0)
        have HFe := Yq (fun w0 => rfigure_any s[e] w0)
        by_cases hie : Lx.inner s[e] = true
        ·have Hr2 : Hid (Lx.run Lx.inner (l.drop a) = Lx.run Lx.inner (l.drop (e + 1)) + (e + 1 - a)) := Yq (by
          rw [hr, hd, Lx.run_cons, if_pos hie]; omega)
         clear hr hd hb
         rw [inner_or] at hie
         generalize Lx.letter s[e] = p1 at *
         generalize Lx.figure s[e] = p2 at *
         cases p1 <;> cases p2
         ·cases hie
         all_goals
          clear hie
          go_wp2_with (first | (go_at_call 31; (with_reducible refine (HLe.out _).mono ?_); rintro e0 w3 ⟨rfl, rfl⟩) | (go_at_call 32; (with_reducible refine (HFe.out _).mono ?_); rintro e0 w3 ⟨rfl, rfl⟩))
          go_round
          case rel => exact ⟨e + 1, by go_num, by omega, by omega, Hr2.out⟩
          case measure => simp [intOf]; omega
        ·have Hr : Hid (Lx.run Lx.inner (l.drop a) = e - a) := Yq (by rw [hr, hd, Lx.run_cons, if_neg hie]; omega)
         clear hr hd hb
         rw [inner_or] at hie
         obtain ⟨hp1, hp2⟩ := or_no hie
         rw [hp1] at HLe
         rw [hp2] at HFe
         clear hie hp1 hp2
         obtain ⟨m, hme⟩ : ∃ m, e - a = m := ⟨_, rfl⟩
         have Hm : Hid (Lx.run Lx.inner (l.drop a) = m) := Yq (by rw [Hr.out]; exact hme)
         have hm1 : 1 ≤ m := by
          have := Hm.out
          rw [Hdrop.out, Lx.run_cons, if_pos hin] at this; omega
         have Hext : Hid (s.extract a e = toB ((l.drop a).take m)) := Yq (by rw [extract_mid, ← Hl.out, hme])
         go_upto_region 28 with (first
          | (go_at_call 31; (with_reducible refine (HLe.out _).mono ?_); rintro e0 w3 ⟨rfl, rfl⟩)
          | (go_at_call 32; (with_reducible refine (HFe.out _).mono ?_); rintro e0 w3 ⟨rfl, rfl⟩))
         have d0 : w4.cell? ⟨g3, 0, none⟩ = some (.int .i64 0) := HB4.out.cell (o := 0) rfl
         have d1 : w4.cell? ⟨g3, 1, none⟩ = some (.string ⟨#[]⟩) := HB4.out.cell (o := 1) rfl
         have f0 := HB4.out.frozen 0
         have f1 := HB4.out.frozen 1
         go_region
         generalize hW : ((w4.setCell ⟨g3, 0, none⟩ (.int .i64 1)).setCell ⟨g3, 1, none⟩ (.string (s.extract a e))).drew = w5
         have hg45 : w4.grownBy w5 (some g3) := by
          have h := (grown_setCell w4 ⟨g3, 0, none⟩ (.int .i64 1)).trans (grown_setCell (w4.setCell ⟨g3, 0, none⟩ (.int .i64 1)) ⟨g3, 1, none⟩ (.string (s.extract a e)))
          rw [← hW]; exact ⟨h.os, h.tape, h.output, h.size, h.block⟩
         have Hbz : Hid (Below w.heap.size w w5) := Yq (Below.grown Hb4.out hg45 Hb4.out.size (fun _ e => by cases e; exact Hg3.out))
         have Hownz : Hid (w5.ownsRow w.heap.size 95 5 u6 ts.length (ts.flatMap tC)) := Yq (Hown4.out.kept hg45 (.inr (fun e => Hno3.out e)))
         have HBz : Hid (Blk w5 g3 [.int .i64 1, .string (toB ((l.drop a).take m)), .int .i64 0, .int .i64 q1, .int .i64 q2]) := Yq (by
          have h := (HB4.out.setCell (o := 0) (.int .i64 1)).setCell (o := 1) (.string (s.extract a e))
          rw [Hext.out] at h hW
          rw [← hW]; exact h)
         clear hW hg45 d0 d1 f0 f1
         by_cases h40 : 40 < m
         ·have h40z : (40 : Int) < (e : Int) - (a : Int) := by omega
          have Htok : Hid (Lx.token (l.drop a) = .bad 3) := Yq (by rw [token_word Hdrop.out hin, Hm.out]; unfold wordOf; rw [Hf.out, if_neg (by decide), if_pos h40])
          go_wp2_with (first | (go_at_call 32; (with_reducible refine (HFg.out _).mono ?_); rintro e0 w3 ⟨rfl, rfl⟩))
          refine bodyPost_ret (results_tmp4 rfl _ _) rfl ?_
          rw [Hbd.out 3 Htok.out]
          exact ⟨rfl, Hbz.out⟩
         ·have h40z : (e : Int) - (a : Int) ≤ 40 := by omega
          have Htok : Hid (Lx.token (l.drop a) = .ok (1, ((l.drop a).take m), 0, m)) := Yq (by rw [token_word Hdrop.out hin, Hm.out]; unfold wordOf; rw [Hf.out, if_neg (by decide), if_neg h40])
          go_upto_region 46 with (first
           | (go_at_call 32; (with_reducible refine (HFg.out _).mono ?_); rintro e0 w3 ⟨rfl, rfl⟩))
          go_simp
          have r9 : w5.rangeAt g3 0 [.int .i64 1, .string (toB ((l.drop a).take m)), .int .i64 0, .int .i64 q1, .int .i64 q2] := HBz.out.whole
          have hs5 := Hbz.out.size
          have hlen5 : (ts.length + 1) * 48 ≤ 140737488355328 := by omega
          go_wp2_with (first
           | (refine wpList_load_seg rfl 95 _ rfl _ _ rfl _ _ r9 Tryz.underlying95 rfl infoRT ?_)
           | (at_builtin; refine wpList_append_at T_rtok rfl _ _ rfl #[_, _, _, _, _] rfl Hownz.out rfl rfl ?_ hlen5 hs5 ?_; (· exact one_tok _ _ _ _ _); (intro v6 w6 h5 h6 h7)))
          have HR6 : Hid (RSplAt w s (a + m) v6 w6) := Yq ⟨ts ++ [⟨1, ((l.drop a).take m), 0, q1, q2⟩], by omega, by
            rw [List.length_append, List.flatMap_append]; exact h5, Below.of_grown Hbz.out Hownz.out h6 Hbz.out.size (Nat.le_refl _), by simp; omega, Hnx.out 1 ((l.drop a).take m) 0 (m) Htok.out⟩
          clear h5 h6 h7
          go_roundg (s.size - (a + m))
          case measure => omega
          case rel => exact ⟨a + m, by go_num, by omega, HR6.out⟩
       ·have hee : (s.size : Int) ≤ (e : Int) := by omega
        have Hr : Hid (Lx.run Lx.inner (l.drop a) = e - a) := Yq (by rw [hr, List.drop_of_length_le (by rw [Hll.out]; omega), Lx.run_nil]; omega)
        obtain ⟨m, hme⟩ : ∃ m, e - a = m := ⟨_, rfl⟩
        clear hr hlt
        have Hm : Hid (Lx.run Lx.inner (l.drop a) = m) := Yq (by rw [Hr.out]; exact hme)
        have hm1 : 1 ≤ m := by
         have := Hm.out
         rw [Hdrop.out, Lx.run_cons, if_pos hin] at this; omega
        have Hext : Hid (s.extract a e = toB ((l.drop a).take m)) := Yq (by rw [extract_mid, ← Hl.out, hme])
        go_upto_region 28 with fail
        have d0 : w4.cell? ⟨g3, 0, none⟩ = some (.int .i64 0) := HB4.out.cell (o := 0) rfl
        have d1 : w4.cell? ⟨g3, 1, none⟩ = some (.string ⟨#[]⟩) := HB4.out.cell (o := 1) rfl
        have f0 := HB4.out.frozen 0
        have f1 := HB4.out.frozen 1
        go_region
        generalize hW : ((w4.setCell ⟨g3, 0, none⟩ (.int .i64 1)).setCell ⟨g3, 1, none⟩ (.string (s.extract a e))).drew = w5
        have hg45 : w4.grownBy w5 (some g3) := by
         have h := (grown_setCell w4 ⟨g3, 0, none⟩ (.int .i64 1)).trans (grown_setCell (w4.setCell ⟨g3, 0, none⟩ (.int .i64 1)) ⟨g3, 1, none⟩ (.string (s.extract a e)))
         rw [← hW]; exact ⟨h.os, h.tape, h.output, h.size, h.block⟩
        have Hbz : Hid (Below w.heap.size w w5) := Yq (Below.grown Hb4.out hg45 Hb4.out.size (fun _ e => by cases e; exact Hg3.out))
        have Hownz : Hid (w5.ownsRow w.heap.size 95 5 u6 ts.length (ts.flatMap tC)) := Yq (Hown4.out.kept hg45 (.inr (fun e => Hno3.out e)))
        have HBz : Hid (Blk w5 g3 [.int .i64 1, .string (toB ((l.drop a).take m)), .int .i64 0, .int .i64 q1, .int .i64 q2]) := Yq (by
         have h := (HB4.out.setCell (o := 0) (.int .i64 1)).setCell (o := 1) (.string (s.extract a e))
         rw [Hext.out] at h hW
         rw [← hW]; exact h)
        clear hW hg45 d0 d1 f0 f1
        by_cases h40 : 40 < m
        ·have h40z : (40 : Int) < (e : Int) - (a : Int) := by omega
         have Htok : Hid (Lx.token (l.drop a) = .bad 3) := Yq (by rw [token_word Hdrop.out hin, Hm.out]; unfold wordOf; rw [Hf.out, if_neg (by decide), if_pos h40])
         go_wp2_with (first | (go_at_call 32; (with_reducible refine (HFg.out _).mono ?_); rintro e0 w3 ⟨rfl, rfl⟩))
         refine bodyPost_ret (results_tmp4 rfl _ _) rfl ?_
         rw [Hbd.out 3 Htok.out]
         exact ⟨rfl, Hbz.out⟩
        ·have h40z : (e : Int) - (a : Int) ≤ 40 := by omega
         have Htok : Hid (Lx.token (l.drop a) = .ok (1, ((l.drop a).take m), 0, m)) := Yq (by rw [token_word Hdrop.out hin, Hm.out]; unfold wordOf; rw [Hf.out, if_neg (by decide), if_neg h40])
         go_upto_region 46 with (first
          | (go_at_call 32; (with_reducible refine (HFg.out _).mono ?_); rintro e0 w3 ⟨rfl, rfl⟩))
         go_simp
         have r9 : w5.rangeAt g3 0 [.int .i64 1, .string (toB ((l.drop a).take m)), .int .i64 0, .int .i64 q1, .int .i64 q2] := HBz.out.whole
         have hs5 := Hbz.out.size
         have hlen5 : (ts.length + 1) * 48 ≤ 140737488355328 := by omega
         go_wp2_with (first
          | (refine wpList_load_seg rfl 95 _ rfl _ _ rfl _ _ r9 Tryz.underlying95 rfl infoRT ?_)
          | (at_builtin; refine wpList_append_at T_rtok rfl _ _ rfl #[_, _, _, _, _] rfl Hownz.out rfl rfl ?_ hlen5 hs5 ?_; (· exact one_tok _ _ _ _ _); (intro v6 w6 h5 h6 h7)))
         have HR6 : Hid (RSplAt w s (a + m) v6 w6) := Yq ⟨ts ++ [⟨1, ((l.drop a).take m), 0, q1, q2⟩], by omega, by
           rw [List.length_append, List.flatMap_append]; exact h5, Below.of_grown Hbz.out Hownz.out h6 Hbz.out.size (Nat.le_refl _), by simp; omega, Hnx.out 1 ((l.drop a).take m) 0 (m) Htok.out⟩
         clear h5 h6 h7
         go_roundg (s.size - (a + m))
         case measure => omega
         case rel => exact ⟨a + m, by go_num, by omega, HR6.out⟩
    ·rw [hf] at HFg
     have hlt0 := letter_not_figure _ hf
     rw [hlt0] at HLt
     have hin : Lx.inner s[a] = true := by rw [inner_or, hf, hlt0]; rfl
     have Hf := Yq hf
     clear hf hlt0
     go_wp2_with (first | (go_at_call 31; (with_reducible refine (HLt.out _).mono ?_); rintro e0 w3 ⟨rfl, rfl⟩) | (go_at_call 32; (with_reducible refine (HFg.out _).mono ?_); rintro e0 w3 ⟨rfl, rfl⟩))
     go_loop [13] (fun i => ∃ e : Nat, i = .int .i64 e ∧ a ≤ e ∧ e ≤ s.size ∧ Lx.run Lx.inner (l.drop a) = Lx.run Lx.inner (l.drop e) + (e - a)) (fun i => s.size - (intOf i).toNat)
     case atStart => exact ⟨a, rfl, Nat.le_refl _, hal, by simp⟩
     case round =>
      obtain ⟨e, rfl, hae, hes, hr⟩ := hrel
      by_cases hlt : e < s.size
      ·have hel : e < l.length := by rw [Hll.out]; exact hlt
       have hb : s[e] = l[e] := by have := Hl.out; subst this; rfl
       have hd := drop_at l hel
       rw [← hb] at hd
       have HLe := Yq (fun w0 => rletter_any s[e] w0)
       have HFe := Yq (fun w0 => rfigure_any s[e] w0)
       by_cases hie : Lx.inner s[e] = true
       ·have Hr2 : Hid (Lx.run Lx.inner (l.drop a) = Lx.run Lx.inner (l.drop (e + 1)) + (e + 1 - a)) := Yq (by
         rw [hr, hd, Lx.run_cons, if_pos hie]; omega)
        clear hr hd hb
        rw [inner_or] at hie
        generalize Lx.letter s[e] = p1 at *
        generalize Lx.figure s[e] = p2 at *
        cases p1 <;> cases p2
        ·cases hie
        all_goals
         clear hie
         go_wp2_with (first | (go_at_call 31; (with_reducible refine (HLe.out _).mono ?_); rintro e0 w3 ⟨rfl, rfl⟩) | (go_at_call 32; (with_reducible refine (HFe.out _).mono ?_); rintro e0 w3 ⟨rfl, rfl⟩))
         go_round
         case rel => exact ⟨e + 1, by go_num, by omega, by omega, Hr2.out⟩
         case measure => simp [intOf]; omega
       ·have Hr : Hid (Lx.run Lx.inner (l.drop a) = e - a) := Yq (by rw [hr, hd, Lx.run_cons, if_neg hie]; omega)
        clear hr hd hb
        rw [inner_or] at hie
        obtain ⟨hp1, hp2⟩ := or_no hie
        rw [hp1] at HLe
        rw [hp2] at HFe
        clear hie hp1 hp2
        obtain ⟨m, hme⟩ : ∃ m, e - a = m := ⟨_, rfl⟩
        have Hm : Hid (Lx.run Lx.inner (l.drop a) = m) := Yq (by rw [Hr.out]; exact hme)
        have hm1 : 1 ≤ m := by
         have := Hm.out
         rw [Hdrop.out, Lx.run_cons, if_pos hin] at this; omega
        have Hext : Hid (s.extract a e = toB ((l.drop a).take m)) := Yq (by rw [extract_mid, ← Hl.out, hme])
        go_upto_region 28 with (first
         | (go_at_call 31; (with_reducible refine (HLe.out _).mono ?_); rintro e0 w3 ⟨rfl, rfl⟩)
         | (go_at_call 32; (with_reducible refine (HFe.out _).mono ?_); rintro e0 w3 ⟨rfl, rfl⟩))
        have d0 : w4.cell? ⟨g3, 0, none⟩ = some (.int .i64 0) := HB4.out.cell (o := 0) rfl
        have d1 : w4.cell? ⟨g3, 1, none⟩ = some (.string ⟨#[]⟩) := HB4.out.cell (o := 1) rfl
        have f0 := HB4.out.frozen 0
        have f1 := HB4.out.frozen 1
        go_region
        generalize hW : ((w4.setCell ⟨g3, 0, none⟩ (.int .i64 1)).setCell ⟨g3, 1, none⟩ (.string (s.extract a e))).drew = w5
        have hg45 : w4.grownBy w5 (some g3) := by
         have h := (grown_setCell w4 ⟨g3, 0, none⟩ (.int .i64 1)).trans (grown_setCell (w4.setCell ⟨g3, 0, none⟩ (.int .i64 1)) ⟨g3, 1, none⟩ (.string (s.extract a e)))
         rw [← hW]; exact ⟨h.os, h.tape, h.output, h.size, h.block⟩
        have Hbz : Hid (Below w.heap.size w w5) := Yq (Below.grown Hb4.out hg45 Hb4.out.size (fun _ e => by cases e; exact Hg3.out))
        have Hownz : Hid (w5.ownsRow w.heap.size 95 5 u6 ts.length (ts.flatMap tC)) := Yq (Hown4.out.kept hg45 (.inr (fun e => Hno3.out e)))
        have HBz : Hid (Blk w5 g3 [.int .i64 1, .string (toB ((l.drop a).take m)), .int .i64 0, .int .i64 q1, .int .i64 q2]) := Yq (by
         have h := (HB4.out.setCell (o := 0) (.int .i64 1)).setCell (o := 1) (.string (s.extract a e))
         rw [Hext.out] at h hW
         rw [← hW]; exact h)
        clear hW hg45 d0 d1 f0 f1
        have c0 : w5.cell? ⟨g3, 0, none⟩ = some (.int .i64 1) := HBz.out.cell (o := 0) rfl
        have c1 : w5.cell? ⟨g3, 1, none⟩ = some (.string (toB ((l.drop a).take m))) := HBz.out.cell (o := 1) rfl
        have c2 : w5.cell? ⟨g3, 2, none⟩ = some (.int .i64 0) := HBz.out.cell (o := 2) rfl
        have f0 := HBz.out.frozen 0
        have f1 := HBz.out.frozen 1
        have f2 := HBz.out.frozen 2
        have HNum := Yq (fun w0 => rnumber_any (toB ((l.drop a).take m)) w0 (by rw [toB_size, List.length_take, List.length_drop, Hll.out]; omega))
        rw [toB_list] at HNum
        cases hnum : Lx.number ((l.drop a).take m) with
        | bad q =>
         rw [hnum] at HNum
         have Htok : Hid (Lx.token (l.drop a) = .bad q) := Yq (by rw [token_word Hdrop.out hin, Hm.out]; unfold wordOf; rw [Hf.out, if_pos rfl, hnum])
         have hq9 := number_bad hnum
         clear hnum
         rcases hq9 with rfl | rfl
         ·replace HNum : Hid (∀ w0, Calls Tryz.prog 33 #[.string (toB ((l.drop a).take m))] w0 fun e w' => e = .returned (.tuple #[.int .i64 0, .int .i64 9]) ∧ w0 = w') := HNum
          go_wp2_with (first | (go_at_call 32; (with_reducible refine (HFg.out _).mono ?_); rintro e0 w3 ⟨rfl, rfl⟩) | (go_at_call 33; (with_reducible refine (HNum.out _).mono ?_); rintro e0 w3 ⟨rfl, rfl⟩))
          refine bodyPost_ret (results_tmp4 rfl _ _) rfl ?_
          rw [Hbd.out 9 Htok.out]
          exact ⟨rfl, (Hbz.out.setCell Hg3.out _).setCell Hg3.out _⟩
         ·replace HNum : Hid (∀ w0, Calls Tryz.prog 33 #[.string (toB ((l.drop a).take m))] w0 fun e w' => e = .returned (.tuple #[.int .i64 0, .int .i64 1]) ∧ w0 = w') := HNum
          go_wp2_with (first | (go_at_call 32; (with_reducible refine (HFg.out _).mono ?_); rintro e0 w3 ⟨rfl, rfl⟩) | (go_at_call 33; (with_reducible refine (HNum.out _).mono ?_); rintro e0 w3 ⟨rfl, rfl⟩))
          refine bodyPost_ret (results_tmp4 rfl _ _) rfl ?_
          rw [Hbd.out 1 Htok.out]
          exact ⟨rfl, (Hbz.out.setCell Hg3.out _).setCell Hg3.out _⟩
        | ok x =>
         rw [hnum] at HNum
         have Htok : Hid (Lx.token (l.drop a) = .ok (2, ((l.drop a).take m), x, m)) := Yq (by rw [token_word Hdrop.out hin, Hm.out]; unfold wordOf; rw [Hf.out, if_pos rfl, hnum])
         clear hnum
         replace HNum : Hid (∀ w0, Calls Tryz.prog 33 #[.string (toB ((l.drop a).take m))] w0 fun e w' => e = .returned (.tuple #[.int .i64 x, .int .i64 0]) ∧ w0 = w') := HNum
         go_upto_region 46 with (first
          | (go_at_call 32; (with_reducible refine (HFg.out _).mono ?_); rintro e0 w3 ⟨rfl, rfl⟩)
          | (go_at_call 33; (with_reducible refine (HNum.out _).mono ?_); rintro e0 w3 ⟨rfl, rfl⟩))
         go_simp
         generalize hW2 : (w5.setCell ⟨g3, 0, none⟩ (.int .i64 2)).setCell ⟨g3, 2, none⟩ (.int .i64 x) = w7
         have hg57 : w5.grownBy w7 (some g3) := by
          rw [← hW2]; exact (grown_setCell w5 ⟨g3, 0, none⟩ (.int .i64 2)).trans (grown_setCell _ ⟨g3, 2, none⟩ (.int .i64 x))
         replace HBz : Hid (Blk w7 g3 [.int .i64 2, .string (toB ((l.drop a).take m)), .int .i64 x, .int .i64 q1, .int .i64 q2]) := Yq (by
          rw [← hW2]; exact (HBz.out.setCell (o := 0) (.int .i64 2)).setCell (o := 2) (.int .i64 x))
         replace Hbz : Hid (Below w.heap.size w w7) := Yq (Below.grown Hbz.out hg57 Hbz.out.size (fun _ e => by cases e; exact Hg3.out))
         replace Hownz : Hid (w7.ownsRow w.heap.size 95 5 u6 ts.length (ts.flatMap tC)) := Yq (Hownz.out.kept hg57 (.inr (fun e => Hno3.out e)))
         clear hW2 hg57 c0 c1 c2 f0 f1 f2
         have r9 : w7.rangeAt g3 0 [.int .i64 2, .string (toB ((l.drop a).take m)), .int .i64 x, .int .i64 q1, .int .i64 q2] := HBz.out.whole
         have hs5 := Hbz.out.size
         have hlen5 : (ts.length + 1) * 48 ≤ 140737488355328 := by omega
         go_wp2_with (first
          | (refine wpList_load_seg rfl 95 _ rfl _ _ rfl _ _ r9 Tryz.underlying95 rfl infoRT ?_)
          | (at_builtin; refine wpList_append_at T_rtok rfl _ _ rfl #[_, _, _, _, _] rfl Hownz.out rfl rfl ?_ hlen5 hs5 ?_; (· exact one_tok _ _ _ _ _); (intro v6 w6 h5 h6 h7)))
         have HR6 : Hid (RSplAt w s (a + m) v6 w6) := Yq ⟨ts ++ [⟨2, ((l.drop a).take m), x, q1, q2⟩], by omega, by
           rw [List.length_append, List.flatMap_append]; exact h5, Below.of_grown Hbz.out Hownz.out h6 Hbz.out.size (Nat.le_refl _), by simp; omega, Hnx.out 2 ((l.drop a).take m) x (m) Htok.out⟩
         clear h5 h6 h7
         go_roundg (s.size - (a + m))
         case measure => omega
         case rel => exact ⟨a + m, by go_num, by omega, HR6.out⟩
      ·have hee : (s.size : Int) ≤ (e : Int) := by omega
       have Hr : Hid (Lx.run Lx.inner (l.drop a) = e - a) := Yq (by rw [hr, List.drop_of_length_le (by rw [Hll.out]; omega), Lx.run_nil]; omega)
       obtain ⟨m, hme⟩ : ∃ m, e - a = m := ⟨_, rfl⟩
       clear hr hlt
       have Hm : Hid (Lx.run Lx.inner (l.drop a) = m) := Yq (by rw [Hr.out]; exact hme)
       have hm1 : 1 ≤ m := by
        have := Hm.out
        rw [Hdrop.out, Lx.run_cons, if_pos hin] at this; omega
       have Hext : Hid (s.extract a e = toB ((l.drop a).take m)) := Yq (by rw [extract_mid, ← Hl.out, hme])
       go_upto_region 28 with fail
       have d0 : w4.cell? ⟨g3, 0, none⟩ = some (.int .i64 0) := HB4.out.cell (o := 0) rfl
       have d1 : w4.cell? ⟨g3, 1, none⟩ = some (.string ⟨#[]⟩) := HB4.out.cell (o := 1) rfl
       have f0 := HB4.out.frozen 0
       have f1 := HB4.out.frozen 1
       go_region
       generalize hW : ((w4.setCell ⟨g3, 0, none⟩ (.int .i64 1)).setCell ⟨g3, 1, none⟩ (.string (s.extract a e))).drew = w5
       have hg45 : w4.grownBy w5 (some g3) := by
        have h := (grown_setCell w4 ⟨g3, 0, none⟩ (.int .i64 1)).trans (grown_setCell (w4.setCell ⟨g3, 0, none⟩ (.int .i64 1)) ⟨g3, 1, none⟩ (.string (s.extract a e)))
        rw [← hW]; exact ⟨h.os, h.tape, h.output, h.size, h.block⟩
       have Hbz : Hid (Below w.heap.size w w5) := Yq (Below.grown Hb4.out hg45 Hb4.out.size (fun _ e => by cases e; exact Hg3.out))
       have Hownz : Hid (w5.ownsRow w.heap.size 95 5 u6 ts.length (ts.flatMap tC)) := Yq (Hown4.out.kept hg45 (.inr (fun e => Hno3.out e)))
       have HBz : Hid (Blk w5 g3 [.int .i64 1, .string (toB ((l.drop a).take m)), .int .i64 0, .int .i64 q1, .int .i64 q2]) := Yq (by
        have h := (HB4.out.setCell (o := 0) (.int .i64 1)).setCell (o := 1) (.string (s.extract a e))
        rw [Hext.out] at h hW
        rw [← hW]; exact h)
       clear hW hg45 d0 d1 f0 f1
       have c0 : w5.cell? ⟨g3, 0, none⟩ = some (.int .i64 1) := HBz.out.cell (o := 0) rfl
       have c1 : w5.cell? ⟨g3, 1, none⟩ = some (.string (toB ((l.drop a).take m))) := HBz.out.cell (o := 1) rfl
       have c2 : w5.cell? ⟨g3, 2, none⟩ = some (.int .i64 0) := HBz.out.cell (o := 2) rfl
       have f0 := HBz.out.frozen 0
       have f1 := HBz.out.frozen 1
       have f2 := HBz.out.frozen 2
       have HNum := Yq (fun w0 => rnumber_any (toB ((l.drop a).take m)) w0 (by rw [toB_size, List.length_take, List.length_drop, Hll.out]; omega))
       rw [toB_list] at HNum
       cases hnum : Lx.number ((l.drop a).take m) with
       | bad q =>
        rw [hnum] at HNum
        have Htok : Hid (Lx.token (l.drop a) = .bad q) := Yq (by rw [token_word Hdrop.out hin, Hm.out]; unfold wordOf; rw [Hf.out, if_pos rfl, hnum])
        have hq9 := number_bad hnum
        clear hnum
        rcases hq9 with rfl | rfl
        ·replace HNum : Hid (∀ w0, Calls Tryz.prog 33 #[.string (toB ((l.drop a).take m))] w0 fun e w' => e = .returned (.tuple #[.int .i64 0, .int .i64 9]) ∧ w0 = w') := HNum
         go_wp2_with (first | (go_at_call 32; (with_reducible refine (HFg.out _).mono ?_); rintro e0 w3 ⟨rfl, rfl⟩) | (go_at_call 33; (with_reducible refine (HNum.out _).mono ?_); rintro e0 w3 ⟨rfl, rfl⟩))
         refine bodyPost_ret (results_tmp4 rfl _ _) rfl ?_
         rw [Hbd.out 9 Htok.out]
         exact ⟨rfl, (Hbz.out.setCell Hg3.out _).setCell Hg3.out _⟩
        ·replace HNum : Hid (∀ w0, Calls Tryz.prog 33 #[.string (toB ((l.drop a).take m))] w0 fun e w' => e = .returned (.tuple #[.int .i64 0, .int .i64 1]) ∧ w0 = w') := HNum
         go_wp2_with (first | (go_at_call 32; (with_reducible refine (HFg.out _).mono ?_); rintro e0 w3 ⟨rfl, rfl⟩) | (go_at_call 33; (with_reducible refine (HNum.out _).mono ?_); rintro e0 w3 ⟨rfl, rfl⟩))
         refine bodyPost_ret (results_tmp4 rfl _ _) rfl ?_
         rw [Hbd.out 1 Htok.out]
         exact ⟨rfl, (Hbz.out.setCell Hg3.out _).setCell Hg3.out _⟩
       | ok x =>
        rw [hnum] at HNum
        have Htok : Hid (Lx.token (l.drop a) = .ok (2, ((l.drop a).take m), x, m)) := Yq (by rw [token_word Hdrop.out hin, Hm.out]; unfold wordOf; rw [Hf.out, if_pos rfl, hnum])
        clear hnum
        replace HNum : Hid (∀ w0, Calls Tryz.prog 33 #[.string (toB ((l.drop a).take m))] w0 fun e w' => e = .returned (.tuple #[.int .i64 x, .int .i64 0]) ∧ w0 = w') := HNum
        go_upto_region 46 with (first
         | (go_at_call 32; (with_reducible refine (HFg.out _).mono ?_); rintro e0 w3 ⟨rfl, rfl⟩)
         | (go_at_call 33; (with_reducible refine (HNum.out _).mono ?_); rintro e0 w3 ⟨rfl, rfl⟩))
        go_simp
        generalize hW2 : (w5.setCell ⟨g3, 0, none⟩ (.int .i64 2)).setCell ⟨g3, 2, none⟩ (.int .i64 x) = w7
        have hg57 : w5.grownBy w7 (some g3) := by
         rw [← hW2]; exact (grown_setCell w5 ⟨g3, 0, none⟩ (.int .i64 2)).trans (grown_setCell _ ⟨g3, 2, none⟩ (.int .i64 x))
        replace HBz : Hid (Blk w7 g3 [.int .i64 2, .string (toB ((l.drop a).take m)), .int .i64 x, .int .i64 q1, .int .i64 q2]) := Yq (by
         rw [← hW2]; exact (HBz.out.setCell (o := 0) (.int .i64 2)).setCell (o := 2) (.int .i64 x))
        replace Hbz : Hid (Below w.heap.size w w7) := Yq (Below.grown Hbz.out hg57 Hbz.out.size (fun _ e => by cases e; exact Hg3.out))
        replace Hownz : Hid (w7.ownsRow w.heap.size 95 5 u6 ts.length (ts.flatMap tC)) := Yq (Hownz.out.kept hg57 (.inr (fun e => Hno3.out e)))
        clear hW2 hg57 c0 c1 c2 f0 f1 f2
        have r9 : w7.rangeAt g3 0 [.int .i64 2, .string (toB ((l.drop a).take m)), .int .i64 x, .int .i64 q1, .int .i64 q2] := HBz.out.whole
        have hs5 := Hbz.out.size
        have hlen5 : (ts.length + 1) * 48 ≤ 140737488355328 := by omega
        go_wp2_with (first
         | (refine wpList_load_seg rfl 95 _ rfl _ _ rfl _ _ r9 Tryz.underlying95 rfl infoRT ?_)
         | (at_builtin; refine wpList_append_at T_rtok rfl _ _ rfl #[_, _, _, _, _] rfl Hownz.out rfl rfl ?_ hlen5 hs5 ?_; (· exact one_tok _ _ _ _ _); (intro v6 w6 h5 h6 h7)))
        have HR6 : Hid (RSplAt w s (a + m) v6 w6) := Yq ⟨ts ++ [⟨2, ((l.drop a).take m), x, q1, q2⟩], by omega, by
          rw [List.length_append, List.flatMap_append]; exact h5, Below.of_grown Hbz.out Hownz.out h6 Hbz.out.size (Nat.le_refl _), by simp; omega, Hnx.out 2 ((l.drop a).take m) x (m) Htok.out⟩
        clear h5 h6 h7
        go_roundg (s.size - (a + m))
        case measure => omega
        case rel => exact ⟨a + m, by go_num, by omega, HR6.out⟩
end Go.Proofs.YtpcfdngnmigkfaaGreatDoor
