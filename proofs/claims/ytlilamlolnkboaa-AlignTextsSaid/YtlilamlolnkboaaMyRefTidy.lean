/- redlineref19.Tidy, walked. -/
import Derived.Test.YtlilamlolnkboaaMyRefRuns
namespace Go.Proofs.Ytlilamlolnkboaa
open Go.RowKit Go.WideShapes
set_option linter.unusedVariables false

/-- three rows of numbers that a call owns, in three blocks -/
structure R3 (w : World) (a b c : Value) (la lb lc : List Nat) (wr : World) : Prop where
  ha : wr.ownsRow w.heap.size 3 1 a la.length (intVals (nats la))
  hb : wr.ownsRow w.heap.size 3 1 b lb.length (intVals (nats lb))
  hc : wr.ownsRow w.heap.size 3 1 c lc.length (intVals (nats lc))
  ab : a.ownBlock ≠ b.ownBlock
  ac : a.ownBlock ≠ c.ownBlock
  bc : b.ownBlock ≠ c.ownBlock
  sa : ∃ g, a.ownBlock = some g
  sb : ∃ g, b.ownBlock = some g
  sc : ∃ g, c.ownBlock = some g
  hw : Below w.heap.size w wr

theorem R3.below {w wr w' : World} {a b c : Value} {la lb lc : List Nat} (h : R3 w a b c la lb lc wr) (hb : Below wr.heap.size wr w') : R3 w a b c la lb lc w' :=
  ⟨owns_below h.ha hb, owns_below h.hb hb, owns_below h.hc hb, h.ab, h.ac, h.bc, h.sa, h.sb, h.sc, h.hw.trans (hb.mono h.hw.size)⟩
theorem R3.rot {w wr : World} {a b c : Value} {la lb lc : List Nat} (h : R3 w a b c la lb lc wr) : R3 w b c a lb lc la wr :=
  ⟨h.hb, h.hc, h.ha, h.bc, h.ab.symm, h.ac.symm, h.sb, h.sc, h.sa, h.hw⟩
/-- the first one grows -/
theorem R3.grow {w wr w' : World} {a b c a' : Value} {la lb lc l : List Nat} (h : R3 w a b c la lb lc wr) {m : Nat} (hm : m = l.length) (h1 : w'.ownsRow w.heap.size 3 1 a' (la.length + m) (intVals (nats la) ++ intVals (nats l))) (h2 : wr.grownBy w' a.ownBlock)
    (h3 : a'.ownBlock = a.ownBlock ∨ ∃ g, a'.ownBlock = some g ∧ wr.heap.size ≤ g) : R3 w a' b c (la ++ l) lb lc w' := by
  subst hm
  have key : ∀ {v : Value} {lv : List Nat}, wr.ownsRow w.heap.size 3 1 v lv.length (intVals (nats lv)) → a.ownBlock ≠ v.ownBlock → (∃ g, v.ownBlock = some g) → a'.ownBlock ≠ v.ownBlock := by
    intro v lv ho hne hs
    rcases h3 with e | ⟨g, e, hg⟩
    · rw [e]; exact hne
    · rw [e]; intro e2
      have := (ho.lt g e2.symm).2
      omega
  refine ⟨?_, h.hb.kept h2 (.inr h.ab.symm), h.hc.kept h2 (.inr h.ac.symm), key h.hb h.ab h.sb, key h.hc h.ac h.sc, h.bc, ?_, h.sb, h.sc, Below.of_grown h.hw h.ha h2 h.hw.size (Nat.le_refl _)⟩
  · rw [List.length_append]
    simpa [intVals, nats] using h1
  · rcases h3 with e | ⟨g, e, _⟩
    · rw [e]; exact h.sa
    · exact ⟨g, e⟩

/-- a fresh row -/
theorem fresh_own (w wr : World) (h : w.heap.size ≤ wr.heap.size) : (wr.alloc (.cells #[] 3)).ownsRow w.heap.size 3 1 (.slice (some ⟨wr.heap.size, 0, none⟩) 0 0) ([] : List Nat).length (intVals (nats [])) :=
  World.ownsRow_lit (base := w.heap.size) (e := 3) (size := 1) wr #[] 0 h (by decide) rfl

theorem R3.fresh {w wr : World} {a b c : Value} {la lb lc : List Nat} (h : R3 w a b c la lb lc wr) :
    R3 w a (.slice (some ⟨wr.heap.size, 0, none⟩) 0 0) (.slice (some ⟨wr.heap.size + 1, 0, none⟩) 0 0) la [] [] ((wr.alloc (.cells #[] 3)).alloc (.cells #[] 3)) := by
  have hs := h.hw.size
  have h1 := fresh_own w wr hs
  have h2 := fresh_own w (wr.alloc (.cells #[] 3)) (by simp; omega)
  rw [show (wr.alloc (.cells #[] 3)).heap.size = wr.heap.size + 1 by simp] at h2
  refine ⟨(h.ha.alloc _).alloc _, h1.alloc _, h2, own_ne h.ha (Nat.le_refl _), own_ne h.ha (Nat.le_succ _), by simp [Value.ownBlock], h.sa, ⟨_, rfl⟩, ⟨_, rfl⟩, (h.hw.alloc hs _).alloc (by simp; omega) _⟩

def TiOut (w : World) (rs : List (Nat × Nat)) (sv dv pv i : Value) (wr : World) : Prop :=
  ∃ (k d p : Nat) (sl : List Nat), k ≤ rs.length ∧ i = .int .i64 k ∧ R3 w sv dv pv sl (List.replicate d 2) (List.replicate p 3) wr ∧ sl ++ tidyK d p (expand (rs.drop k)) = tidyK 0 0 (expand rs)
def TiIn (w : World) (rs : List (Nat × Nat)) (k kk c bs : Nat) (sv dv pv i : Value) (wr : World) : Prop :=
  ∃ (q d p : Nat) (sl : List Nat), q ≤ c ∧ i = .int .i64 q ∧ R3 w sv dv pv sl (List.replicate d 2) (List.replicate p 3) wr ∧ sl ++ tidyK d p (List.replicate (c - q) kk ++ expand (rs.drop (k + 1))) = tidyK 0 0 (expand rs) ∧
    wr.cell? ⟨bs, 0, none⟩ = some (.int .i64 kk) ∧ wr.cell? ⟨bs, 1, none⟩ = some (.int .i64 c) ∧ bs < wr.heap.size ∧ sv.ownBlock ≠ some bs ∧ dv.ownBlock ≠ some bs ∧ pv.ownBlock ≠ some bs

/-- an own row that is not nil, as a slice -/
theorem own_some {w : World} {base : Nat} {e : TypeId} {size n : Nat} {v : Value} {xs : List Value} (h : w.ownsRow base e size v n xs) (hs : ∃ g, v.ownBlock = some g) : ∃ g cap, v = .slice (some ⟨g, 0, none⟩) n cap := by
  rcases h.2 with ⟨rfl, _⟩ | ⟨g, cap, cur, rfl, _⟩
  · obtain ⟨g, hg⟩ := hs; simp [Value.ownBlock] at hg
  · exact ⟨g, cap, rfl⟩
theorem own_hrow {w : World} {base : Nat} {e : TypeId} {size n : Nat} {g cap : Nat} {xs : List Value} (h : w.ownsRow base e size (.slice (some ⟨g, 0, none⟩) n cap) n xs) : HRow (frag w) (some ⟨g, 0, none⟩) xs := by
  obtain ⟨a, c, e2, hr, _⟩ := HRow.of_owns (E := []) h (.inr (by simp))
  rw [fragE_nil] at hr
  cases e2
  exact hr
theorem ints_one (l : List Int) : ∀ u ∈ intVals l, u.oneCell' = true := by
  intro u hu
  obtain ⟨x, _, rfl⟩ := List.mem_map.1 hu
  rfl
theorem ints_len (l : List Nat) : (intVals (nats l)).length = l.length * 1 := by simp [intVals, nats]

def RefTidyPost (w : World) (rs : List (Nat × Nat)) (e : Ending) (w' : World) : Prop :=
  ∃ v, e = .returned v ∧ FlatV runC (frag w') v (compress (tidyK 0 0 (expand rs))) ∧ Below w.heap.size w w'

set_option maxRecDepth 100000 in
set_option maxHeartbeats 8000000 in
theorem reftidy_any (v : Value) (rs : List (Nat × Nat)) (w : World) (hv : FlatV runC (frag w) v rs) (hg : Good rs) (hl : (expand rs).length < 90000) :
    Calls Try.prog 14 #[v] w (RefTidyPost w rs) := by
  have hlen := (expand_len_ge hg).1
  obtain ⟨a, cap, rfl, hc1, hc2, hc0⟩ := hv.len
  unfold maxLen at hc2
  have Hv := Lib.hid hv; have Hg := Lib.hid hg
  have HT := Lib.hid (tidyK_len (expand rs) 0 0)
  clear hv hg hc0
  generalize hn : rs.length = n at *
  have Hn := Lib.hid hn; clear hn
  go_enter Try.func14, Try.ntmps14
  go_wp2_with fail
  go_loopw [3, 4, 5, 14] (TiOut w rs) (fun _ _ _ i _ => n - (intOf i).toNat)
  case atStart =>
    have h0 := fresh_own w w (Nat.le_refl _)
    have h1 : R3 w (.slice (some ⟨w.heap.size, 0, none⟩) 0 0) (.slice (some ⟨w.heap.size + 1, 0, none⟩) 0 0) (.slice (some ⟨w.heap.size + 1 + 1, 0, none⟩) 0 0) [] [] [] (((w.alloc (.cells #[] 3)).alloc (.cells #[] 3)).alloc (.cells #[] 3)) := by
      have g1 := fresh_own w (w.alloc (.cells #[] 3)) (by simp)
      have g2 := fresh_own w ((w.alloc (.cells #[] 3)).alloc (.cells #[] 3)) (by simp; omega)
      simp only [World.size_alloc] at g1 g2
      exact ⟨(h0.alloc _).alloc _, g1.alloc _, g2, by simp [Value.ownBlock], by simp [Value.ownBlock]; omega, by simp [Value.ownBlock], ⟨_, rfl⟩, ⟨_, rfl⟩, ⟨_, rfl⟩, (((Below.refl _ _).alloc (Nat.le_refl _) _).alloc (by simp) _).alloc (by simp; omega) _⟩
    exact ⟨0, 0, 0, [], Nat.zero_le _, rfl, h1, by simp⟩
  case round =>
    obtain ⟨k, d, p, sl, hk, rfl, hR, hinv⟩ := hrel
    rw [Hn.out] at hk
    have hs0 := hR.hw.size
    have HR := Lib.hid hR; have Hinv := Lib.hid hinv
    clear hR hinv
    by_cases hlt : k < n
    · have hks : k < rs.length := by rw [Hn.out]; exact hlt
      obtain ⟨b0, o0, hb0, hidx, hcell'⟩ := FlatV.at (w := w) (n := n) (cap := cap) (a := a) (by rw [← Hn.out]; have := Hv.out; rw [← Hn.out] at this; exact this) runC_len (by decide) (i := k) hks Try.underlying45 sizeRun'
      obtain ⟨⟨kk, c⟩, hrs⟩ : ∃ r, rs[k] = r := ⟨_, rfl⟩
      have hgk := Hg.out rs[k] (List.getElem_mem _)
      have hexp := (expand_len_ge Hg.out).2 rs[k] (List.getElem_mem _)
      rw [hrs] at hgk hexp hcell'
      simp only at hgk hexp
      have hcA := (HR.out.hw.cell (p := ⟨b0, o0 + 0, none⟩) hb0).trans (hcell' 0 _ rfl)
      have hcB := (HR.out.hw.cell (p := ⟨b0, o0 + 1, none⟩) hb0).trans (hcell' 1 _ rfl)
      rw [Nat.add_zero] at hcA
      have hin : TiIn w rs k kk c wr.heap.size u3 u4 u5 (.int .i64 0) (wr.alloc (.cells #[.int .i64 kk, .int .i64 c] 49)) := by
        obtain ⟨h5, h6⟩ := struct2_cells (Below.refl _ (wr.alloc (.cells #[.int .i64 kk, .int .i64 c] 49)))
        refine ⟨0, d, p, sl, Nat.zero_le _, rfl, HR.out.below ((Below.refl _ _).alloc (Nat.le_refl _) _), ?_, h5, h6, by simp, own_ne HR.out.ha (Nat.le_refl _), own_ne HR.out.hb (Nat.le_refl _), own_ne HR.out.hc (Nat.le_refl _)⟩
        have h7 := Hinv.out
        rw [List.drop_eq_getElem_cons hks, hrs, expand_cons] at h7
        simpa using h7
      have Hin := Lib.hid hin; have Hrs := Lib.hid hrs
      obtain ⟨bs, hbs⟩ : ∃ bs, bs = wr.heap.size := ⟨_, rfl⟩
      have Hbs := Lib.hid hbs
      rw [← hbs] at Hin
      clear hin hcell' hrs hbs
      go_wp2_with fail
      rw [← Hbs.out]
      obtain ⟨wo, rfl⟩ : ∃ wo : World, wo = wr := ⟨_, rfl⟩
      go_loopw [3, 4, 5, 8] (TiIn w rs k kk c bs) (fun _ _ _ i _ => c - (intOf i).toNat)
      case atStart => exact Hin.out
      case round =>
        obtain ⟨q, d, p, sl, hq, rfl, hR, hinv, hcK, hcC, hbl, hn1, hn2, hn3⟩ := hrel
        have hs1 := hR.hw.size
        have hbd : sl.length + d + p ≤ 90000 := by
          have h5 := congrArg List.length hinv
          rw [List.length_append] at h5
          have h6 := (tidyK_len (List.replicate (c - q) kk ++ expand (rs.drop (k + 1))) d p).2
          have h7 := HT.out.1
          omega
        have HR2 := Lib.hid hR; have Hinv2 := Lib.hid hinv; have Hn1 := Lib.hid hn1; have Hn2 := Lib.hid hn2; have Hn3 := Lib.hid hn3
        clear hR hinv hn1 hn2 hn3 Hin
        by_cases hqc : q < c
        · have hkk : kk = 1 ∨ kk = 2 ∨ kk = 3 := by omega
          have hrep : List.replicate (c - q) kk = kk :: List.replicate (c - (q + 1)) kk := by
            rw [show c - q = (c - (q + 1)) + 1 by omega, List.replicate_succ]
          have Hi3 : Hid (sl ++ tidyK d p (kk :: (List.replicate (c - (q + 1)) kk ++ expand (rs.drop (k + 1)))) = tidyK 0 0 (expand rs)) := by
            show _ = _
            have := Hinv2.out
            rw [hrep] at this
            exact this
          clear hrep hgk
          rcases hkk with hkk | hkk | hkk
          · rw [hkk] at Hi3
            have q1 : ((kk : Int) == 1) = true := by rw [hkk]; rfl
            have Hkk := Lib.hid hkk; clear hkk
            obtain ⟨gd, cd, rfl⟩ : ∃ g c, u4 = .slice (some ⟨g, 0, none⟩) d c := by
              have h := HR2.out.hb; rw [List.length_replicate] at h; exact own_some h HR2.out.sb
            obtain ⟨gp, cp, rfl⟩ : ∃ g c, u5 = .slice (some ⟨g, 0, none⟩) p c := by
              have h := HR2.out.hc; rw [List.length_replicate] at h; exact own_some h HR2.out.sc
            have Hrd := Lib.hid (own_hrow (by have := HR2.out.hb; rw [List.length_replicate] at this; exact this))
            go_wp2_with (at_builtin; refine wpList_append_row T_ints (m := d) (c := cd) (ad := ⟨gd, 0, none⟩) rfl _ _ rfl rfl HR2.out.ha rfl Hrd.out (by simp [intVals, nats]) (ints_one _) (by omega) hs1 ?_)
            intro v1 w1 h5 h6 h7 _
            have h7' : v1.ownBlock = u3.ownBlock ∨ ∃ g, v1.ownBlock = some g ∧ wr.heap.size ≤ g := h7.imp_right fun h => ⟨_, h, by omega⟩
            have G1 := Lib.hid (HR2.out.grow (l := List.replicate d 2) (m := d) (by simp) h5 h6 h7')
            have hK1 := (grown_cell h6 hbl Hn1.out).trans hcK
            have hC1 := (grown_cell h6 hbl Hn1.out).trans hcC
            have Hne1 := Lib.hid (ne_carry Hn1.out hbl h7')
            have hbl1 := Nat.lt_of_lt_of_le hbl h6.size
            have hs2 := G1.out.hw.size
            have Hrp := Lib.hid (own_hrow (by have := G1.out.hc; rw [List.length_replicate] at this; exact this))
            clear h5 h6 h7 h7'
            go_wp2_with (at_builtin; refine wpList_append_row T_ints (m := p) (c := cp) (ad := ⟨gp, 0, none⟩) rfl _ _ rfl rfl G1.out.ha rfl Hrp.out (by simp [intVals, nats]) (ints_one _) (by simp; omega) hs2 ?_)
            intro v2 w2 h5 h6 h7 _
            have h7' : v2.ownBlock = v1.ownBlock ∨ ∃ g, v2.ownBlock = some g ∧ w1.heap.size ≤ g := h7.imp_right fun h => ⟨_, h, by omega⟩
            have G2 := Lib.hid (G1.out.grow (l := List.replicate p 3) (m := p) (by simp) (by simpa using h5) h6 h7')
            have hK2 := (grown_cell h6 hbl1 Hne1.out).trans hK1
            have hC2 := (grown_cell h6 hbl1 Hne1.out).trans hC1
            have Hne2 := Lib.hid (ne_carry Hne1.out hbl1 h7')
            have hbl2 := Nat.lt_of_lt_of_le hbl1 h6.size
            have hs3 := G2.out.hw.size
            clear h5 h6 h7 h7' hK1 hC1
            go_wp2_with (at_builtin; refine wpList_append_at T_ints rfl _ _ rfl #[_] rfl G2.out.ha rfl rfl (by simp [Value.oneCell']) (by simp; omega) hs3 ?_)
            intro v3 w3 h5 h6 h7
            have h7' : v3.ownBlock = v2.ownBlock ∨ ∃ g, v3.ownBlock = some g ∧ w2.heap.size ≤ g := h7.imp_right fun h => ⟨_, h, by omega⟩
            have hK3 := (grown_cell h6 hbl2 Hne2.out).trans hK2
            have hC3 := (grown_cell h6 hbl2 Hne2.out).trans hC2
            have hbl3 := Nat.lt_of_lt_of_le hbl2 h6.size
            have Hrel : Hid (TiIn w rs k kk c bs v3 (.slice (some ⟨w3.heap.size, 0, none⟩) 0 0) (.slice (some ⟨w3.heap.size + 1, 0, none⟩) 0 0) (.int .i64 ((q : Int) + 1)) ((w3.alloc (.cells #[] 3)).alloc (.cells #[] 3))) := by
              have g1 := (G2.out.grow (l := [1]) rfl (by simpa [intVals, nats] using h5) h6 h7').fresh
              refine ⟨q + 1, 0, 0, _, by omega, by simp, g1, ?_, ?_, ?_, by simp; omega, ne_carry Hne2.out hbl2 h7', by simp [Value.ownBlock]; omega, by simp [Value.ownBlock]; omega⟩
              · have := Hi3.out
                rw [tidyK_keep] at this
                rw [← this, Hkk.out]
                simp
              · exact (Below.cell (((Below.refl w3.heap.size w3).alloc (Nat.le_refl _) _).alloc (by simp) _) (p := ⟨bs, 0, none⟩) hbl3).trans hK3
              · exact (Below.cell (((Below.refl w3.heap.size w3).alloc (Nat.le_refl _) _).alloc (by simp) _) (p := ⟨bs, 1, none⟩) hbl3).trans hC3
            clear h5 h6 h7 h7' hK2 hC2 hK3 hC3
            go_wp2_with fail
            go_roundw
            case rel => exact Hrel.out
            case measure => simp [intOf]; omega
          · rw [hkk] at Hi3
            have q1 : ((kk : Int) == 1) = false := by simp; omega
            have q2 : ((kk : Int) == 2) = true := by rw [hkk]; rfl
            have Hkk := Lib.hid hkk; clear hkk
            go_wp2_with (at_builtin; refine wpList_append_at T_ints rfl _ _ rfl #[_] rfl HR2.out.hb rfl rfl (by simp [Value.oneCell']) (by simp; omega) hs1 ?_)
            intro v' w4 h5 h6 h7
            have h7' : v'.ownBlock = u4.ownBlock ∨ ∃ g, v'.ownBlock = some g ∧ wr.heap.size ≤ g := h7.imp_right fun h => ⟨_, h, by omega⟩
            have Hrel : Hid (TiIn w rs k kk c bs u3 v' u5 (.int .i64 ((q : Int) + 1)) w4) := by
              have g1 := (HR2.out.rot.grow (l := [2]) rfl (by simpa [intVals, nats] using h5) h6 h7').rot.rot
              rw [show List.replicate d 2 ++ [2] = List.replicate (d + 1) 2 from List.replicate_succ'.symm] at g1
              refine ⟨q + 1, d + 1, p, sl, by omega, by simp, g1, ?_, (grown_cell h6 hbl Hn2.out).trans hcK, (grown_cell h6 hbl Hn2.out).trans hcC, Nat.lt_of_lt_of_le hbl h6.size, Hn1.out, ne_carry Hn2.out hbl h7', Hn3.out⟩
              have := Hi3.out
              rw [tidyK_drop] at this
              rw [Hkk.out]; exact this
            clear h5 h6 h7 h7'
            go_wp2_with fail
            go_roundw
            case rel => exact Hrel.out
            case measure => simp [intOf]; omega
          · rw [hkk] at Hi3
            have q1 : ((kk : Int) == 1) = false := by simp; omega
            have q2 : ((kk : Int) == 2) = false := by simp; omega
            have q3 : ((kk : Int) == 3) = true := by rw [hkk]; rfl
            have Hkk := Lib.hid hkk; clear hkk
            go_wp2_with (at_builtin; refine wpList_append_at T_ints rfl _ _ rfl #[_] rfl HR2.out.hc rfl rfl (by simp [Value.oneCell']) (by simp; omega) hs1 ?_)
            intro v' w4 h5 h6 h7
            have h7' : v'.ownBlock = u5.ownBlock ∨ ∃ g, v'.ownBlock = some g ∧ wr.heap.size ≤ g := h7.imp_right fun h => ⟨_, h, by omega⟩
            have Hrel : Hid (TiIn w rs k kk c bs u3 u4 v' (.int .i64 ((q : Int) + 1)) w4) := by
              have g1 := (HR2.out.rot.rot.grow (l := [3]) rfl (by simpa [intVals, nats] using h5) h6 h7').rot
              rw [show List.replicate p 3 ++ [3] = List.replicate (p + 1) 3 from List.replicate_succ'.symm] at g1
              refine ⟨q + 1, d, p + 1, sl, by omega, by simp, g1, ?_, (grown_cell h6 hbl Hn3.out).trans hcK, (grown_cell h6 hbl Hn3.out).trans hcC, Nat.lt_of_lt_of_le hbl h6.size, Hn1.out, Hn2.out, ne_carry Hn3.out hbl h7'⟩
              have := Hi3.out
              rw [tidyK_put] at this
              rw [Hkk.out]; exact this
            clear h5 h6 h7 h7'
            go_wp2_with fail
            go_roundw
            case rel => exact Hrel.out
            case measure => simp [intOf]; omega
        · obtain rfl : q = c := by omega
          go_wp2_with fail
          go_roundw
          case rel =>
            have h5 := Hinv2.out
            rw [Nat.sub_self, List.replicate_zero, List.nil_append] at h5
            exact ⟨k + 1, d, p, sl, by rw [Hn.out]; omega, by simp, HR2.out, h5⟩
          case measure => simp [intOf]; omega
    · obtain rfl : k = n := by omega
      have hT : sl ++ (List.replicate d 2 ++ List.replicate p 3) = tidyK 0 0 (expand rs) := by
        have h5 := Hinv.out
        rw [← Hn.out, List.drop_length] at h5
        exact h5
      have hbd : sl.length + d + p ≤ 90000 := by
        have h5 := congrArg List.length hT
        simp only [List.length_append, List.length_replicate] at h5
        have := HT.out.1
        omega
      have Ht := Lib.hid hT
      clear hT hk
      obtain ⟨gd, cd, rfl⟩ : ∃ g c, u4 = .slice (some ⟨g, 0, none⟩) d c := by
        have h := HR.out.hb; rw [List.length_replicate] at h; exact own_some h HR.out.sb
      obtain ⟨gp, cp, rfl⟩ : ∃ g c, u5 = .slice (some ⟨g, 0, none⟩) p c := by
        have h := HR.out.hc; rw [List.length_replicate] at h; exact own_some h HR.out.sc
      have Hrd := Lib.hid (own_hrow (by have := HR.out.hb; rw [List.length_replicate] at this; exact this))
      go_wp2_with (at_builtin; refine wpList_append_row T_ints (m := d) (c := cd) (ad := ⟨gd, 0, none⟩) rfl _ _ rfl rfl HR.out.ha rfl Hrd.out (by simp [intVals, nats]) (ints_one _) (by omega) hs0 ?_)
      intro v1 w1 h5 h6 h7 _
      have h7' : v1.ownBlock = u3.ownBlock ∨ ∃ g, v1.ownBlock = some g ∧ wr.heap.size ≤ g := h7.imp_right fun h => ⟨_, h, by omega⟩
      have G1 := Lib.hid (HR.out.grow (l := List.replicate d 2) (m := d) (by simp) h5 h6 h7')
      have hs2 := G1.out.hw.size
      have Hrp := Lib.hid (own_hrow (by have := G1.out.hc; rw [List.length_replicate] at this; exact this))
      clear h5 h6 h7 h7'
      go_wp2_with (at_builtin; refine wpList_append_row T_ints (m := p) (c := cp) (ad := ⟨gp, 0, none⟩) rfl _ _ rfl rfl G1.out.ha rfl Hrp.out (by simp [intVals, nats]) (ints_one _) (by simp; omega) hs2 ?_)
      intro v2 w2 h5 h6 h7 _
      have h7' : v2.ownBlock = v1.ownBlock ∨ ∃ g, v2.ownBlock = some g ∧ w1.heap.size ≤ g := h7.imp_right fun h => ⟨_, h, by omega⟩
      have G2 := Lib.hid (G1.out.grow (l := List.replicate p 3) (m := p) (by simp) (by simpa using h5) h6 h7')
      clear h5 h6 h7 h7'
      have hL : ListV IntR (frag w2) v2 (nats (tidyK 0 0 (expand rs))) := by
        rw [← Ht.out, ← List.append_assoc]
        have ho := G2.out.ha
        rw [← nats_len] at ho
        have hF := ListV.of_owns (R := IntR) (E := []) ho (.inr (by simp)) (fun i hv hx => by simp [IntR, intVals])
        rw [fragE_nil] at hF
        exact hF
      have HC := Lib.hid (refruns_any (tidyK 0 0 (expand rs)) v2 w2 hL (by have := HT.out.1; omega))
      have Hw := Lib.hid G2.out.hw
      clear hL
      go_wp2_with fail
      refine HC.out.mono ?_
      rintro e w5 ⟨u, rfl, hu, hb5⟩
      go_wp2_with fail
      go_ret
      exact ⟨_, rfl, hu, Hw.out.trans (hb5.mono Hw.out.size)⟩

end Go.Proofs.Ytlilamlolnkboaa
