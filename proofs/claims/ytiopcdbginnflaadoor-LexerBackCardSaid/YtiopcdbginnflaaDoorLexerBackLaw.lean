/- The law LexerBack, walked: it returns true. -/
import Derived.Test.YtiopcdbginnflaaDoorLxIdent
import Derived.Test.YtiopcdbginnflaaDoorLxBack
namespace Go.Proofs.YtiopcdbginnflaaDoor
open Go.RowKit
set_option linter.unusedVariables false
set_option linter.unusedSimpArgs false

theorem token_len {l : Lx.Bs} {k : Nat} {t : Lx.Bs} {x n line col : Nat} (h : Lx.token l = .ok (k, t, x, n)) : (Lx.body ⟨k, t, x, line, col⟩).length ≤ n := by
  unfold Lx.token at h
  cases l with
  | nil => cases h
  | cons b r =>
    simp only at h
    split at h
    · split at h
      · split at h
        · cases h
        · cases h
          unfold Lx.body; rw [if_neg (show ¬ (2 = 3) by decide)]; exact (List.length_take_le _ _)
      · split at h
        · cases h
        · cases h
          unfold Lx.body; rw [if_neg (show ¬ (1 = 3) by decide)]; exact (List.length_take_le _ _)
    · split at h
      · split at h
        · cases h
        · rename_i m hm
          split at h
          · cases h
          · cases h
            unfold Lx.body; rw [if_pos rfl]
            have := List.length_take_le m r
            simp only [List.length_cons, List.length_append, List.length_nil]; omega
      · split at h
        · cases h
          unfold Lx.body; rw [if_neg (show ¬ (4 = 3) by decide)]; simp
        · cases h
theorem render_len : ∀ (n : Nat) (l : Lx.Bs) (p : Nat × Nat) (ts : List Lx.Tok), l.length ≤ n → Lx.splitN l p = .ok ts → (ts.flatMap Lx.render).length ≤ 2 * l.length ∧ ts.length ≤ l.length
  | n, l, p, ts, hn, h => by
    rw [Lx.splitN] at h
    split at h
    · cases h
    · split at h
      · cases h; simp
      · split at h
        · cases h
        · rename_i k t x m hm
          have hp := Lx.token_pos hm
          have hb := fun a b => token_len (line := a) (col := b) hm
          have hg := Lx.gapN_le l.length l (Nat.le_refl _)
          cases n with
          | zero =>
            rw [List.length_drop] at hp; omega
          | succ n =>
            cases hs : Lx.splitN ((l.drop (Lx.gapN l).1).drop m) (Lx.adv p (l.take ((Lx.gapN l).1 + m))) with
            | bad e q => rw [hs] at h; cases h
            | ok us =>
              rw [hs] at h
              cases h
              rw [List.length_drop] at hp
              have ih := render_len n _ _ us (by rw [List.length_drop, List.length_drop]; omega) hs
              rw [List.length_drop, List.length_drop] at ih
              rw [List.flatMap_cons, List.length_append, List.length_cons]
              have h2 := hb (Lx.adv p (l.take (Lx.gapN l).1)).1 (Lx.adv p (l.take (Lx.gapN l).1)).2
              have h3 : (Lx.render ⟨k, t, x, (Lx.adv p (l.take (Lx.gapN l).1)).1, (Lx.adv p (l.take (Lx.gapN l).1)).2⟩).length = (Lx.body ⟨k, t, x, (Lx.adv p (l.take (Lx.gapN l).1)).1, (Lx.adv p (l.take (Lx.gapN l).1)).2⟩).length + 1 := rfl
              omega
theorem sameOn_len : ∀ {n : Nat} {a b : List Lx.Tok}, Lx.sameOn n a b → b.length = a.length
  | n, [], [], _ => rfl
  | n, a :: r, b :: q, h => by rw [List.length_cons, List.length_cons, sameOn_len h.2.2.2.2]
  | n, [], b :: q, h => h.elim
  | n, a :: r, [], h => h.elim
theorem sameOn_at : ∀ {n : Nat} {a b : List Lx.Tok} (h : Lx.sameOn n a b) (i : Nat) (hi : i < a.length) (hj : i < b.length), b[i].kind = a[i].kind ∧ b[i].text = a[i].text ∧ b[i].num = a[i].num ∧ b[i].line = n
  | n, a :: r, b :: q, h, 0, _, _ => ⟨h.1, h.2.1, h.2.2.1, h.2.2.2.1⟩
  | n, a :: r, b :: q, h, i + 1, hi, hj => sameOn_at h.2.2.2.2 i (by simpa using hi) (by simpa using hj)
  | n, [], b :: q, h, _, hi, _ => by simp at hi
theorem toB_app (a b : Lx.Bs) : toB a ++ toB b = toB (a ++ b) := by
  apply ByteArray.ext
  apply Array.ext'
  simp [toB, ByteArray.data_append]
/-- the mark that is chosen by the first bytes -/
def markB (t : Lx.Bs) : ByteArray := if t.any (· == 34) then ⟨#[39]⟩ else ⟨#[34]⟩
theorem markB_mark (t : Lx.Bs) : markB t = toB [Lx.mark t] := by
  unfold markB Lx.mark; split <;> rfl
theorem markB_succ (t : Lx.Bs) {i : Nat} (h : i < t.length) : markB (t.take (i + 1)) = if t[i] = 34 then ⟨#[39]⟩ else markB (t.take i) := by
  unfold markB
  rw [List.take_succ_eq_append_getElem h, List.any_append]
  by_cases h2 : t[i] = 34
  · rw [if_pos h2, h2]; simp
  · rw [if_neg h2]
    have : (([t[i]] : Lx.Bs).any (· == 34)) = false := by simp [h2]
    rw [this, Bool.or_false]
theorem render_other (t : Lx.Tok) (h : t.kind ≠ 3) : Lx.render t = [32] ++ t.text := by unfold Lx.render Lx.body; rw [if_neg h]; rfl
theorem render_text (t : Lx.Tok) (h : t.kind = 3) : Lx.render t = [32] ++ [Lx.mark t.text] ++ t.text ++ [Lx.mark t.text] := by unfold Lx.render Lx.body; rw [if_pos h]; simp
theorem flat_succ (ts : List Lx.Tok) {k : Nat} (h : k < ts.length) : (ts.take (k + 1)).flatMap Lx.render = (ts.take k).flatMap Lx.render ++ Lx.render ts[k] := by
  rw [List.take_succ_eq_append_getElem h, List.flatMap_append]; simp

/-- the loop that puts the texts down, at its head -/
def OutAt (w1 : World) (ts : List Lx.Tok) (out i : Value) (wr : World) : Prop :=
  ∃ k : Nat, k ≤ ts.length ∧ i = .int .i64 k ∧ out = .string (toB ((ts.take k).flatMap Lx.render)) ∧ Below w1.heap.size w1 wr

set_option maxHeartbeats 4000000 in
set_option maxRecDepth 100000 in
theorem lexerBack_walk (w : World) (hL : ∃ A, Vars A w) (s : ByteArray) (hs : s.size ≤ maxLen) : Calls Tryd.prog 3 #[.string s] w fun e w' => e = .returned (.bool true) ∧ Below w.heap.size w w' := by
  obtain ⟨A, hv⟩ := hL
  have HA := Lib.hid (alive07 A w hv)
  unfold maxLen at hs
  by_cases hbig : 1500 < s.size
  · have hz : (1500 : Int) < (s.size : Int) := by omega
    clear hbig hv
    go_enter Tryd.func3, Tryd.ntmps3
    go_wp2_with fail
    refine HA.out.mono ?_
    rintro e w1 ⟨rfl, hb1⟩
    go_wp2_with fail
    go_ret
    exact ⟨rfl, hb1⟩
  have hz : (s.size : Int) ≤ 1500 := by omega
  have HS := Lib.hid (fun w0 (h : Vars A w0) => split_any A s w0 h (by omega))
  have Hv := Lib.hid hv
  clear hv
  cases hsp : Lx.splitN s.data.toList (1, 1) with
  | bad n p =>
    rw [hsp] at HS
    clear hsp
    go_enter Tryd.func3, Tryd.ntmps3
    go_wp2_with fail
    refine HA.out.mono ?_
    rintro e w1 ⟨rfl, hb1⟩
    have Hv1 := Lib.hid (Hv.out.below hb1)
    go_wp2_with fail
    refine (HS.out _ Hv1.out).mono ?_
    rintro e w2 ⟨g, rfl, hB, hg, hb2⟩
    have Hb := Lib.hid (hb1.trans (hb2.mono hb1.size))
    clear hB hg hb2 hb1
    go_wp2_with fail
    go_ret
    exact ⟨rfl, Hb.out⟩
  | ok ts =>
    rw [hsp] at HS
    have hlen := render_len s.data.toList.length s.data.toList (1, 1) ts (Nat.le_refl _) hsp
    have hgood := Lx.splitN_good s.data.toList.length s.data.toList (1, 1) ts (Nat.le_refl _) hsp
    rw [len_data] at hlen
    obtain ⟨us, hback, hsame⟩ := Lx.split_back ts hgood (1, 1)
    have HS2 := Lib.hid (fun w0 (h : Vars A w0) => split_any A (toB (ts.flatMap Lx.render)) w0 h (by rw [toB_size]; omega))
    rw [toB_list, hback] at HS2
    have Hsame := Lib.hid hsame
    have Hus := Lib.hid (sameOn_len hsame)
    clear hsp hgood hback hsame
    obtain ⟨n, hn⟩ : ∃ n, n = ts.length := ⟨_, rfl⟩
    rw [← hn] at hlen Hus
    have Hn := Lib.hid hn
    clear hn
    go_enter Tryd.func3, Tryd.ntmps3
    go_wp2_with fail
    refine HA.out.mono ?_
    rintro e w1 ⟨rfl, hb1⟩
    have Hv1 := Lib.hid (Hv.out.below hb1)
    go_wp2_with fail
    refine (HS.out _ Hv1.out).mono ?_
    rintro e w2 ⟨v, rfl, hF, hb2⟩
    have Hb2 := Lib.hid (hb1.trans (hb2.mono hb1.size))
    obtain ⟨ad, cap, rfl, hlc, hcm, _⟩ := hF.len
    rw [← Hn.out] at hF hlc ⊢
    have HF := Lib.hid hF
    clear hF hb1 hb2
    go_wp2_with fail
    go_loopw [5, 7, 8, 9, 30] (fun out _ _ _ i wr => Hid (OutAt w2 ts out i wr) ∧ ∃ k : Nat, i = .int .i64 k) (fun _ _ _ _ i _ => n - (intOf i).toNat)
    case atStart => exact ⟨Lib.hid ⟨0, Nat.zero_le _, rfl, rfl, Below.refl _ _⟩, 0, rfl⟩
    case round =>
      obtain ⟨HR, k0, rfl⟩ := hrel
      obtain ⟨k, hk, hik, rfl, hbw⟩ := HR.out
      obtain rfl : k0 = k := by
        have : (k0 : Int) = k := by simpa using hik
        omega
      clear hik HR
      have Hbw := Lib.hid hbw
      rw [← Hn.out] at hk
      by_cases hlt : k0 < n
      · have hkt : k0 < ts.length := by rw [← Hn.out]; exact hlt
        have hFw := HF.out.mono (below_le hbw)
        have hFw : FlatV tC (frag wr) (.slice ad ts.length cap) ts := by rw [← Hn.out]; exact hFw
        obtain ⟨b, o, hbl, hidx, hcell⟩ := FlatV.at hFw tC_len (by decide) (i := k0) hkt Tryd.underlying23 sizeTok
        rw [← Hn.out] at hidx
        have r0 : wr.rangeAt b o (tC ts[k0]) := fun j u h => hcell j u h
        have Hnext := Lib.hid (flat_succ ts hkt)
        obtain ⟨t, ht⟩ : ∃ t, t = ts[k0] := ⟨_, rfl⟩
        rw [← ht] at r0 Hnext
        have H1 : Hid (∀ u ∈ tC t, u.oneCell' = true) := Lib.hid (one_tok _ _ _ _ _)
        obtain ⟨o0, ho0⟩ : ∃ o0, o0 = toB ((ts.take k0).flatMap Lx.render) := ⟨_, rfl⟩
        have Ho0 := Lib.hid ho0
        have hcat : ((ts.take k0).flatMap Lx.render).length + (Lx.render t).length ≤ 3000 := by
          have h1 : (ts.flatMap Lx.render).length = ((ts.take k0).flatMap Lx.render).length + ((ts.drop k0).flatMap Lx.render).length := by
            rw [← List.length_append, ← List.flatMap_append, List.take_append_drop]
          rw [List.drop_eq_getElem_cons hkt, ← ht, List.flatMap_cons, List.length_append] at h1
          omega
        have hos : o0.size ≤ 3000 := by rw [ho0, toB_size]; omega
        rw [← ho0]
        clear hcell hFw ht ho0 hbw hkt
        go_upto_region 12 with (first
          | (refine wpList_load_seg rfl 29 _ rfl _ _ rfl _ _ r0 Tryd.underlying29 rfl infoT ?_)
          | (refine wpList_alloc_lay rfl 29 rfl zT zeroT ?_; (intro w3 g3 hg3 hB3 hb3; clear r0))
          | (refine wpList_store_all rfl 29 _ _ rfl g3 (tC t) rfl rfl zT hB3 infoT rfl H1.out ?_; (intro w4 hB4 hgr; have hb4 := Below.grown hb3 hgr hb3.size (fun _ e => by cases e; exact hg3); clear hgr hB3 hb3)))
        have c0 : w4.cell? ⟨g3, 0, none⟩ = some (.int .i64 t.kind) := hB4.cell (o := 0) rfl
        have c1 : w4.cell? ⟨g3, 1, none⟩ = some (.string (toB t.text)) := hB4.cell (o := 1) rfl
        have Hbw4 := Lib.hid (Hbw.out.trans (hb4.mono Hbw.out.size))
        clear hB4 hb4 hg3 hidx
        go_simp
        have hrl : (Lx.render t).length ≤ 3000 := by omega
        by_cases h3 : t.kind = 3
        · have h3z : ((t.kind : Int) == 3) = true := by rw [h3]; rfl
          have Hrn := Lib.hid (render_text t h3)
          have htl : t.text.length + 3 ≤ 3000 := by
            have := hrl
            rw [Hrn.out] at this
            simp only [List.length_append, List.length_cons, List.length_nil] at this
            omega
          have hts : (toB t.text).size + 3 ≤ 3000 := by rw [toB_size]; exact htl
          have htss : (toB t.text).size = t.text.length := toB_size _
          have HRel : Hid (OutAt w2 ts (.string (o0 ++ (⟨#[32]⟩ ++ markB t.text ++ toB t.text ++ markB t.text))) (.int .i64 ((k0 : Int) + 1)) w4) := Lib.hid ⟨k0 + 1, by have := Hn.out; omega, by simp, by
            rw [Hnext.out, Hrn.out, Ho0.out, markB_mark, show (⟨#[32]⟩ : ByteArray) = toB [32] from rfl, toB_app, toB_app, toB_app, toB_app], Hbw4.out⟩
          have Hts := Lib.hid htss
          clear h3 hcat hrl htss
          go_wp2_with fail
          go_loop [8, 9] (fun m i => ∃ j : Nat, j ≤ (toB t.text).size ∧ i = .int .i64 j ∧ m = .string (markB (t.text.take j))) (fun _ i => (toB t.text).size - (intOf i).toNat)
          case atStart => exact ⟨0, Nat.zero_le _, rfl, rfl⟩
          case round =>
            obtain ⟨j, hj, rfl, rfl⟩ := hrel
            by_cases hjt : j < (toB t.text).size
            · have hjl : j < t.text.length := by have := Hts.out; omega
              have hms := markB_succ t.text hjl
              have hbyte : (toB t.text)[j] = t.text[j] := rfl
              rw [← hbyte] at hms
              by_cases h34 : (toB t.text)[j] = 34
              · have h34z : (((toB t.text)[j].toNat : Int) == 34) = true := by rw [h34]; rfl
                rw [if_pos h34] at hms
                have Hms := Lib.hid hms
                clear hms h34 hbyte
                go_wp2_with fail
                go_round
                case rel => exact ⟨j + 1, by omega, by go_num, by rw [Hms.out]⟩
                case measure => simp [intOf]; omega
              · have h34z : (((toB t.text)[j].toNat : Int) == 34) = false := by
                  rw [beq_eq_false_iff_ne]; intro e; exact h34 (UInt8.toNat_inj.1 (by show (toB t.text)[j].toNat = 34; omega))
                rw [if_neg h34] at hms
                have Hms := Lib.hid hms
                clear hms h34 hbyte
                go_wp2_with fail
                go_round
                case rel => exact ⟨j + 1, by omega, by go_num, by rw [Hms.out]⟩
                case measure => simp [intOf]; omega
            · obtain rfl : j = (toB t.text).size := by omega
              have hmk : t.text.take (toB t.text).size = t.text := by rw [Hts.out, List.take_length]
              rw [hmk]
              have hm1 : (markB t.text).size = 1 := by rw [markB_mark, toB_size]; rfl
              clear hmk
              go_wp2_with fail
              go_roundw
              case rel => exact ⟨HRel.out, k0 + 1, by go_num⟩
              case measure => simp [intOf]; omega
        · have h3z : ((t.kind : Int) == 3) = false := by rw [beq_eq_false_iff_ne]; omega
          have Hrn := Lib.hid (render_other t h3)
          have hts : (toB t.text).size ≤ 3000 := by
            have := hrl
            rw [Hrn.out, List.length_append] at this
            rw [toB_size]; omega
          have HRel : Hid (OutAt w2 ts (.string (o0 ++ (⟨#[32]⟩ ++ toB t.text))) (.int .i64 ((k0 : Int) + 1)) w4) := Lib.hid ⟨k0 + 1, by have := Hn.out; omega, by simp, by
            rw [Hnext.out, Hrn.out, Ho0.out, show (⟨#[32]⟩ : ByteArray) = toB [32] from rfl, toB_app, toB_app], Hbw4.out⟩
          clear h3 hcat hrl
          go_wp2_with fail
          go_roundw
          case rel => exact ⟨HRel.out, k0 + 1, by go_num⟩
          case measure => simp [intOf]; omega
      · obtain rfl : k0 = n := by omega
        have hall : ts.take k0 = ts := by rw [Hn.out, List.take_length]
        rw [hall]
        have Hv2 := Lib.hid (Hv.out.below (Hb2.out.trans (hbw.mono Hb2.out.size)))
        have hso : (toB (ts.flatMap Lx.render)).size ≤ 3000 := by rw [toB_size]; omega
        clear hall hbw
        go_wp2_with fail
        refine (HS2.out _ Hv2.out).mono ?_
        rintro e w5 ⟨v5, rfl, hF5, hb5⟩
        obtain ⟨ad5, cap5, rfl, hlc5, hcm5, _⟩ := hF5.len
        rw [Hus.out] at hlc5 ⊢
        have Hbz := Lib.hid (Hbw.out.trans (hb5.mono Hbw.out.size))
        have HF5 := Lib.hid hF5
        clear hF5 hb5
        have Hb25 := Lib.hid (Hb2.out.trans (Hbz.out.mono Hb2.out.size))
        obtain ⟨wo, rfl⟩ : ∃ wo : World, wo = wr := ⟨_, rfl⟩
        clear hso
        go_wp2_with fail
        go_loopw [11, 12, 84] (fun _ _ i wr => ∃ j : Nat, j ≤ k0 ∧ i = .int .i64 j ∧ Hid (Below w5.heap.size w5 wr)) (fun _ _ i _ => k0 - (intOf i).toNat)
        case atStart => exact ⟨0, Nat.zero_le _, rfl, Lib.hid (Below.refl _ _)⟩
        case round =>
          obtain ⟨j, hj, rfl, HW⟩ := hrel
          by_cases hjt : j < k0
          · have hjs : j < ts.length := by have := Hn.out; omega
            have hju : j < us.length := by have := Hus.out; omega
            have hFu : FlatV tC (frag wr) (.slice ad5 us.length cap5) us := by
              have h := HF5.out.mono (below_le HW.out)
              exact h
            have hFt : FlatV tC (frag wr) (.slice ad ts.length cap) ts := by
              have h := HF.out.mono (below_le (Hbz.out.trans (HW.out.mono Hbz.out.size)))
              rw [← Hn.out]; exact h
            obtain ⟨b, o, hbl, hidx, hcell⟩ := FlatV.at hFu tC_len (by decide) (i := j) hju Tryd.underlying23 sizeTok
            obtain ⟨b2, o2, hbl2, hidx2, hcell2⟩ := FlatV.at hFt tC_len (by decide) (i := j) hjs Tryd.underlying23 sizeTok
            rw [Hus.out] at hidx
            rw [← Hn.out] at hidx2
            obtain ⟨e1, e2, e3, e4⟩ := sameOn_at Hsame.out j hjs hju
            have r0 : wr.rangeAt b o (tC us[j]) := fun j u h => hcell j u h
            have hut : tC us[j] = [.int .i64 ts[j].kind, .string (toB ts[j].text), .int .i64 ts[j].num, .int .i64 1, .int .i64 us[j].col] := by
              unfold tC tokC; rw [e1, e2, e3, e4]; rfl
            have d0 : wr.cell? ⟨b2, o2, none⟩ = some (.int .i64 ts[j].kind) := by have := hcell2 0 _ rfl; rw [Nat.add_zero] at this; exact this
            have d1 : wr.cell? ⟨b2, o2 + 1, none⟩ = some (.string (toB ts[j].text)) := hcell2 1 _ rfl
            have d2 : wr.cell? ⟨b2, o2 + 2, none⟩ = some (.int .i64 ts[j].num) := hcell2 2 _ rfl
            rw [hut] at r0
            generalize ts[j] = t at *
            generalize us[j].col = col at *
            clear e1 e2 e3 e4 hut hcell hcell2 hFu hFt hbl
            have HW' := HW
            go_upto_region 29 with (first
              | (refine wpList_load_seg rfl 29 _ rfl _ _ rfl _ _ r0 Tryd.underlying29 rfl infoT ?_)
              | (refine wpList_alloc_lay rfl 29 rfl zT zeroT ?_; (intro w6 g3 hg3 hB3 hb3; clear r0))
              | (refine wpList_store_all rfl 29 _ _ rfl g3 _ rfl rfl zT hB3 infoT rfl ?_ ?_; (· exact one_tok _ _ _ _ _); (intro w7 hB7 hgr; have hb7 := Below.grown hb3 hgr hb3.size (fun _ e => by cases e; exact hg3); clear hgr hB3 hb3)))
            have c0 : w7.cell? ⟨g3, 0, none⟩ = some (.int .i64 t.kind) := hB7.cell (o := 0) rfl
            have c1 : w7.cell? ⟨g3, 1, none⟩ = some (.string (toB t.text)) := hB7.cell (o := 1) rfl
            have c2 : w7.cell? ⟨g3, 2, none⟩ = some (.int .i64 t.num) := hB7.cell (o := 2) rfl
            have c3 : w7.cell? ⟨g3, 3, none⟩ = some (.int .i64 1) := hB7.cell (o := 3) rfl
            replace d0 := (hb7.cell (p := ⟨b2, o2, none⟩) hbl2).trans d0
            replace d1 := (hb7.cell (p := ⟨b2, o2 + 1, none⟩) hbl2).trans d1
            replace d2 := (hb7.cell (p := ⟨b2, o2 + 2, none⟩) hbl2).trans d2
            have HW7 := Lib.hid (HW.out.trans (hb7.mono HW.out.size))
            clear hB7 hb7 hg3 hbl2 hidx
            go_simp
            go_quiet (fail)
            have HW8 : Hid (Below w5.heap.size w5 (w7.drewN nq)) := Lib.hid (Below.drewN HW7.out _)
            go_wp2_with fail
            go_roundw
            case rel => exact ⟨j + 1, by omega, by go_num, HW8.out⟩
            case measure => simp [intOf]; omega
          · obtain rfl : j = k0 := by omega
            have hend := Hb25.out.trans (HW.out.mono Hb25.out.size)
            go_wp2_with fail
            go_ret
            exact ⟨rfl, hend⟩

end Go.Proofs.YtiopcdbginnflaaDoor
