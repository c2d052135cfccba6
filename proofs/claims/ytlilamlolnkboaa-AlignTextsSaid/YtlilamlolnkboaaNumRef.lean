/- redlineref18.Number, walked. -/
import Derived.Test.YtlilamlolnkboaaNumWalk
namespace Go.Proofs.Ytlilamlolnkboaa
open Go.RowKit Go.WideShapes
open Num (ix add rowOf rowsOf knownOf total)
set_option linter.unusedVariables false

theorem T_strs : SliceT Try.prog 22 9 (.string ⟨#[]⟩) 1 16 := ⟨Try.underlying22, by kernel_rfl, rfl, by decide, by decide⟩
def StrV (_ : Frag) (v : Value) (s : ByteArray) : Prop := v = .string s
def strVals (l : List ByteArray) : List Value := l.map .string
theorem types_ne2 : 9 ≠ 40 := by decide
theorem types_ne3 : 9 ≠ 3 := by decide

theorem apart_kept {w w2 : World} {base base' : Nat} {e e' : TypeId} {size size' : Nat} {v v' : Value} {n n' : Nat} {xs xs' : List Value} (h : w.ownsRow base e size v n xs) (h' : w.ownsRow base' e' size' v' n' xs') (hne : e ≠ e') (hg : w.grownBy w2 v'.ownBlock) : w2.ownsRow base e size v n xs :=
  h.kept hg (owns_apart h h' hne)

/-- what ref Number holds: the known texts, the row under way, the rows done -/
structure St (w : World) (kv rowv out : Value) (kk : List ByteArray) (r : List Int) (j : Nat) (vs : List Value) (rows : List (List Int)) (wr : World) : Prop where
  hk : wr.ownsRow w.heap.size 9 1 kv kk.length (strVals kk)
  hr : wr.ownsRow w.heap.size 3 1 rowv r.length (intVals r)
  ho : wr.ownsRow w.heap.size 40 1 out j vs
  hd : Done (fragE wr [out.ownBlock, kv.ownBlock, rowv.ownBlock]) vs rows
  hb : Below w.heap.size w wr

theorem St.known {w w1 w2 : World} {kv rowv out v' : Value} {kk : List ByteArray} {r : List Int} {j : Nat} {vs : List Value} {rows : List (List Int)} {s : ByteArray} (h : St w kv rowv out kk r j vs rows w1)
    (h1 : w2.ownsRow w.heap.size 9 1 v' (kk.length + 1) (strVals kk ++ [.string s])) (h2 : w1.grownBy w2 kv.ownBlock) (h3 : v'.ownBlock = kv.ownBlock ∨ v'.ownBlock = some (w1.heap.size + 1)) : St w v' rowv out (kk ++ [s]) r j vs rows w2 := by
  refine ⟨?_, apart_kept h.hr h.hk types_ne3.symm h2, apart_kept h.ho h.hk types_ne2.symm h2, ?_, h.hb.grown h2 h.hb.size (own_ge h.hk)⟩
  · rw [List.length_append]; simpa [strVals] using h1
  · refine h.hd.mono (grownE h2 (.inr (by simp)) (fun k hk => ?_))
    simp only [List.mem_cons, List.not_mem_nil, or_false] at hk ⊢
    rcases hk with e | e | e
    · exact .inl (.inl e)
    · rcases h3 with h3 | h3
      · exact .inl (.inr (.inl (e.trans h3)))
      · right; rw [h3] at e; cases e; omega
    · exact .inl (.inr (.inr e))

theorem St.row {w w1 w2 : World} {kv rowv out v' : Value} {kk : List ByteArray} {r : List Int} {j : Nat} {vs : List Value} {rows : List (List Int)} {x : Int} (h : St w kv rowv out kk r j vs rows w1)
    (h1 : w2.ownsRow w.heap.size 3 1 v' (r.length + 1) (intVals r ++ [.int .i64 x])) (h2 : w1.grownBy w2 rowv.ownBlock) (h3 : v'.ownBlock = rowv.ownBlock ∨ v'.ownBlock = some (w1.heap.size + 1)) : St w kv v' out kk (r ++ [x]) j vs rows w2 := by
  refine ⟨apart_kept h.hk h.hr types_ne3 h2, ?_, apart_kept h.ho h.hr types_ne.symm h2, ?_, h.hb.grown h2 h.hb.size (own_ge h.hr)⟩
  · rw [List.length_append]; simpa [intVals] using h1
  · refine h.hd.mono (grownE h2 (.inr (by simp)) (fun k hk => ?_))
    simp only [List.mem_cons, List.not_mem_nil, or_false] at hk ⊢
    rcases hk with e | e | e
    · exact .inl (.inl e)
    · exact .inl (.inr (.inl e))
    · rcases h3 with h3 | h3
      · exact .inl (.inr (.inr (e.trans h3)))
      · right; rw [h3] at e; cases e; omega

theorem St.strs {w w1 : World} {kv rowv out : Value} {kk : List ByteArray} {r : List Int} {j : Nat} {vs : List Value} {rows : List (List Int)} (h : St w kv rowv out kk r j vs rows w1) : ListV StrV (frag w1) kv kk := by
  have := ListV.of_owns (R := StrV) (E := []) h.hk (.inr (by simp)) (fun i hv hx => by simp [StrV, strVals])
  rw [fragE_nil] at this
  exact this

/-- the outer loop at its head -/
def ROut (w : World) (ls : List (List ByteArray)) (kv out i : Value) (wr : World) : Prop :=
  ∃ (j : Nat) (vs : List Value), j ≤ ls.length ∧ i = .int .i64 j ∧ wr.ownsRow w.heap.size 9 1 kv (knownOf (ls.take j)).length (strVals (knownOf (ls.take j))) ∧ wr.ownsRow w.heap.size 40 1 out j vs ∧
    Done (fragE wr [out.ownBlock, kv.ownBlock]) vs (rowsOf [] (ls.take j)) ∧ Below w.heap.size w wr
def RIn (w : World) (out : Value) (j : Nat) (vs : List Value) (rows : List (List Int)) (kn l : List ByteArray) (kv rowv i : Value) (wr : World) : Prop :=
  ∃ k : Nat, k ≤ l.length ∧ i = .int .i64 k ∧ St w kv rowv out ((l.take k).foldl add kn) (rowOf kn (l.take k)) j vs rows wr

theorem ROut.step {w w1 w2 : World} {kv rowv out v' : Value} {j : Nat} {vs : List Value} {ls : List (List ByteArray)} {rows : List (List Int)} {kn l : List ByteArray} (hj : j < ls.length)
    (hrows : rowsOf [] (ls.take (j + 1)) = rows ++ [rowOf kn l]) (hkn : knownOf (ls.take (j + 1)) = l.foldl add kn)
    (h : St w kv rowv out (l.foldl add kn) (rowOf kn l) j vs rows w1)
    (h1 : w2.ownsRow w.heap.size 40 1 v' (j + 1) (vs ++ [rowv])) (h2 : w1.grownBy w2 out.ownBlock) (h3 : v'.ownBlock = out.ownBlock ∨ v'.ownBlock = some (w1.heap.size + 1)) :
    ROut w ls kv v' (.int .i64 ((j : Int) + 1)) w2 := by
  have hrow2 := apart_kept h.hr h.ho types_ne h2
  have hk2 := apart_kept h.hk h.ho types_ne2 h2
  refine ⟨j + 1, _, by omega, by simp, by rw [hkn]; exact hk2, h1, ?_, h.hb.grown h2 h.hb.size (own_ge h.ho)⟩
  rw [hrows]
  refine Done.snoc (h.hd.mono (grownE h2 (.inr (by simp)) (fun k hk => ?_))) ?_
  · simp only [List.mem_cons, List.not_mem_nil, or_false] at hk ⊢
    rcases hk with e | e
    · rcases h3 with h3 | h3
      · exact .inl (.inl (e.trans h3))
      · right; rw [h3] at e; cases e; omega
    · exact .inl (.inr (.inl e))
  · refine ListV.of_owns (R := IntR) hrow2 ?_ (fun i hv hx => by simp [IntR, intVals])
    rcases owns_apart hrow2 h1 types_ne with e | e
    · exact .inl e
    · rcases owns_apart hrow2 hk2 types_ne3.symm with e2 | e2
      · exact .inl e2
      · right; simp [e, e2]

set_option maxRecDepth 100000 in
set_option maxHeartbeats 4000000 in
theorem refnumber_any (v : Value) (ls : List (List ByteArray)) (w : World) (hl : ListV (ListV StrR) (frag w) v ls) (ht : total ls < 1000000) (hlen : ls.length ≤ 1000000) :
    Calls Try.prog 13 #[v] w (NumPost w ls) := by
  obtain ⟨a, cap, rfl, hlc, hcm, hnil⟩ := hl.len
  unfold maxLen at hcm
  have HL := Lib.hid hl; clear hl
  generalize hn : ls.length = n at HL hlc hlen ⊢
  have Hn := Lib.hid hn; clear hn hnil
  go_enter Try.func13, Try.ntmps13
  go_wp2_with fail
  go_loopw [3, 4, 15] (ROut w ls) (fun _ _ i _ => n - (intOf i).toNat)
  case atStart =>
    have h1 := World.ownsRow_lit (base := w.heap.size) (e := 9) (size := 1) w #[] 0 (Nat.le_refl _) (by decide) rfl
    have h2 := World.ownsRow_lit (base := w.heap.size) (e := 40) (size := 1) (w.alloc (.cells #[] 9)) #[] 0 (by simp) (by decide) rfl
    exact ⟨0, [], Nat.zero_le _, rfl, h1.alloc _, by simpa using h2, ⟨rfl, fun x hv => by simp at hv⟩, ((Below.refl _ _).alloc (Nat.le_refl _) _).alloc (by simp) _⟩
  case round =>
    obtain ⟨j, vs, hj, rfl, hkv, hout, hdone, hbel⟩ := hrel
    rw [Hn.out] at hj
    by_cases hlt : j < n
    · have hjs : j < ls.length := by rw [Hn.out]; exact hlt
      obtain ⟨b0, o0, u, hb0, hidx, hcell0, hu⟩ := ListV.at (n := n) (cap := cap) (a := a) (w := w) HL.out (i := j) hjs Try.underlying44 sizeStrs
      have hcell := (hbel.cell (p := ⟨b0, o0, none⟩) hb0).trans hcell0
      clear hcell0
      obtain ⟨al, cl, rfl, hlc2, hcm2, _⟩ := hu.len
      unfold maxLen at hcm2
      have Hu := Lib.hid hu; clear hu
      have hlt2 : ls[j].length < 1000000 := by
        have : ls[j].length ≤ total ls := Num.mem_total (List.getElem_mem hjs)
        omega
      have Hkn : Hid ((knownOf (ls.take j)).length + ls[j].length < 1000000) := by
        show _ < _
        have h1 := Num.knownOf_len (ls.take (j + 1)) []
        have h2 : total (ls.take (j + 1)) ≤ total ls := by
          unfold total
          have := List.take_append_drop (j + 1) ls
          conv => rhs; rw [← this]
          rw [List.map_append, List.sum_append]; omega
        have h3 : total (ls.take (j + 1)) = total (ls.take j) + ls[j].length := by
          unfold total; rw [Num.take_snoc ls hjs, List.map_append, List.sum_append]; simp
        have h4 := Num.knownOf_len (ls.take j) []
        unfold knownOf
        simp only [List.length_nil, Nat.zero_add] at h4
        omega
      have Hrows : Hid (rowsOf [] (ls.take (j + 1)) = rowsOf [] (ls.take j) ++ [rowOf (knownOf (ls.take j)) ls[j]]) := by
        show _ = _
        rw [Num.take_snoc ls hjs, Num.rowsOf_snoc]
      have Hknown : Hid (knownOf (ls.take (j + 1)) = ls[j].foldl add (knownOf (ls.take j))) := by
        show _ = _
        rw [Num.take_snoc ls hjs, Num.knownOf_snoc]
      generalize knownOf (ls.take j) = kn at *
      generalize rowsOf [] (ls.take j) = rows at *
      generalize ls[j] = l at *
      generalize hm : l.length = m at *
      have Hm := Lib.hid hm; clear hm
      have hst0 : St w u3 (.slice (some ⟨wr.heap.size, 0, none⟩) 0 0) u4 kn [] j vs rows (wr.alloc (.cells #[] 3)) := by
        refine ⟨hkv.alloc _, World.ownsRow_lit (base := w.heap.size) (e := 3) (size := 1) wr #[] 0 hbel.size (by decide) rfl, hout.alloc _, hdone.mono (grownE (World.grownBy_alloc _ _ none) (.inl rfl) (fun k hk => ?_)), hbel.alloc hbel.size _⟩
        simp only [List.mem_cons, List.not_mem_nil, or_false] at hk ⊢
        rcases hk with e | e | e
        · exact .inl (.inl e)
        · exact .inl (.inr e)
        · right; simp only [Value.ownBlock, Option.some.injEq] at e; omega
      have Hst0 := Lib.hid hst0
      clear hst0 hkv hout hdone
      go_wp2_with fail
      obtain ⟨wo, rfl⟩ : ∃ wo : World, wo = wr := ⟨_, rfl⟩
      go_loopw [3, 7, 22] (RIn w u4 j vs rows kn l) (fun _ _ i _ => m - (intOf i).toNat)
      case atStart => exact ⟨0, Nat.zero_le _, rfl, Hst0.out⟩
      case round =>
        obtain ⟨k, hk, rfl, hst⟩ := hrel
        rw [Hm.out] at hk
        by_cases hltk : k < m
        · have hks : k < l.length := by rw [Hm.out]; exact hltk
          obtain ⟨b1, o1, u1, hb1, hidx1, hcell10, hu1, hu1s⟩ := ListV.at (n := m) (cap := cl) (a := al) (w := w) Hu.out (i := k) hks Try.underlying22 sizeStr
          subst hu1
          have hcell1 := (hst.hb.cell (p := ⟨b1, o1, none⟩) hb1).trans hcell10
          clear hcell10
          have Hrow' : Hid (rowOf kn (l.take (k + 1)) = rowOf kn (l.take k) ++ [(ix ((l.take k).foldl add kn) l[k] : Int)]) := by
            show _ = _
            rw [Num.take_snoc l hks, Num.rowOf_snoc]
          have Hadd : Hid ((l.take (k + 1)).foldl add kn = add ((l.take k).foldl add kn) l[k]) := by
            show _ = _
            rw [Num.take_snoc l hks, List.foldl_append]; rfl
          have hlk : ((l.take k).foldl add kn).length < 1000000 := by
            have := Num.foldl_len (l.take k) kn
            have h2 := Hkn.out
            simp only [List.length_take] at this
            omega
          have hrl : (rowOf kn (l.take k)).length = k := by rw [Num.rowOf_len, List.length_take]; omega
          have HrkL := Lib.hid hrl; clear hrl
          generalize (l.take k).foldl add kn = kk at *
          generalize rowOf kn (l.take k) = rk at *
          generalize l[k] = s at *
          have hks2 := hst.strs
          obtain ⟨ak, ck, rfl, hkc, hkm, _⟩ := hks2.len
          unfold maxLen at hkm
          generalize hkl : kk.length = q at *
          have Hkl := Lib.hid hkl; clear hkl
          have Hst := Lib.hid hst; have Hks := Lib.hid hks2
          have hbs := hst.hb.size
          clear hst hks2
          go_wp2_with fail
          obtain ⟨wi, rfl⟩ : ∃ wi : World, wi = wr := ⟨_, rfl⟩
          go_loop [10] (fun at_ => ∃ p : Nat, p ≤ q ∧ at_ = .int .i64 p ∧ Hid (∀ x (hx : x < kk.length), x < p → kk[x] ≠ s)) (fun i => q - (intOf i).toNat)
          case atStart => exact ⟨0, Nat.zero_le _, rfl, fun x hx h => by omega⟩
          case round =>
            obtain ⟨p, hp, rfl, Hall⟩ := hrel
            by_cases hlp : p < q
            · have hps : p < kk.length := by rw [Hkl.out]; exact hlp
              obtain ⟨b2, o2, u2, hb2, hidx2, hcell2, hu2⟩ := ListV.at (n := q) (cap := ck) (a := ak) Hks.out (i := p) hps Try.underlying22 sizeStr
              unfold StrV at hu2
              subst hu2
              by_cases he : kk[p] = s
              · have hb : (kk[p].toList == s.toList) = true := str_eq he
                have hix : ix kk s = p := Num.ix_of (by omega) (fun x hx h => Hall.out x hx h) (fun _ => he)
                have Hix := Lib.hid hix
                have Hadd2 : Hid (add kk s = kk) := by show _ = _; unfold add; rw [if_neg (by omega)]
                have hpq : ((p : Int) == (q : Int)) = false := by simp; omega
                have He := Lib.hid he
                clear he hix
                go_wp2_with (at_builtin; refine wpList_append_at T_ints rfl _ _ rfl #[_] rfl Hst.out.hr rfl rfl ?_ ?_ ?_ ?_)
                · simp [Value.oneCell']
                · rw [HrkL.out]; omega
                · intro v' w3 hown3 hg3 hat3
                  have Hst2 := Lib.hid (Hst.out.row hown3 hg3 hat3)
                  clear hown3 hg3 hat3
                  go_wp2_with fail
                  go_roundw
                  case rel => exact ⟨k + 1, by omega, by simp, by rw [Hrow'.out, Hadd.out, Hadd2.out, Hix.out]; exact Hst2.out⟩
                  case measure => simp [intOf]; omega
              · have hb : (kk[p].toList == s.toList) = false := str_ne he
                have He := Lib.hid he
                clear he
                go_wp2_with fail
                go_round
                case rel =>
                  refine ⟨p + 1, by omega, by go_num, fun x hx h => ?_⟩
                  by_cases e : x = p
                  · subst e; exact He.out
                  · exact Hall.out x hx (by omega)
                case measure => simp [intOf]; omega
            · have hpq : p = q := by omega
              subst hpq
              have hix : ix kk s = p := Num.ix_of (by rw [Hkl.out]; exact Nat.le_refl _) (fun x hx h => Hall.out x hx h) (fun hh => absurd hh (by have := Hkl.out; omega))
              have Hix := Lib.hid hix
              have Hadd2 : Hid (add kk s = kk ++ [s]) := by show _ = _; unfold add; rw [if_pos (by rw [hix, Hkl.out])]
              clear hix hp
              go_wp2_with (at_builtin; refine wpList_append_at T_strs rfl _ _ rfl #[_] rfl Hst.out.hk rfl rfl ?_ ?_ ?_ ?_)
              · simp [Value.oneCell']
              · rw [Hkl.out]; omega
              · intro v1 w2 hown2 hg2 hat2
                have Hst2 := Lib.hid (Hst.out.known hown2 hg2 hat2)
                clear hown2 hg2 hat2
                have hbs2 := Hst2.out.hb.size
                go_wp2_with (at_builtin; refine wpList_append_at T_ints rfl _ _ rfl #[_] rfl Hst2.out.hr rfl rfl ?_ ?_ ?_ ?_)
                · simp [Value.oneCell']
                · rw [HrkL.out]; omega
                · exact hbs2
                · intro v' w3 hown3 hg3 hat3
                  have Hst3 := Lib.hid (Hst2.out.row hown3 hg3 hat3)
                  clear hown3 hg3 hat3
                  go_wp2_with fail
                  go_roundw
                  case rel => exact ⟨k + 1, by omega, by simp, by rw [Hrow'.out, Hadd.out, Hadd2.out, Hix.out]; exact Hst3.out⟩
                  case measure => simp [intOf]; omega
        · have hkm : k = m := by omega
          subst hkm
          have Htake : Hid (l.take k = l) := by show _ = _; rw [← Hm.out, List.take_length]
          rw [Htake.out] at hst
          obtain ⟨ar, cr, rfl, _⟩ := HRow.of_owns (E := []) hst.hr (.inr (by simp))
          generalize hrl2 : (rowOf kn l).length = rl at *
          have Hrl2 := Lib.hid hrl2; clear hrl2
          have Hst := Lib.hid hst
          have hbs := hst.hb.size
          clear hst hk
          go_wp2_with (at_builtin; refine wpList_append_at T_intss rfl _ _ rfl #[_] rfl Hst.out.ho rfl rfl ?_ ?_ ?_ ?_)
          · simp [Value.oneCell']
          · omega
          · exact hbs
          · intro v' w3 hown3 hg3 hat3
            have Hro := Lib.hid (ROut.step hjs Hrows.out Hknown.out Hst.out hown3 hg3 hat3)
            clear hown3 hat3 hg3
            go_wp2_with fail
            go_roundw
            case rel => exact Hro.out
            case measure => simp [intOf]; omega
    · have hjn : j = n := by omega
      have Hout := Lib.hid hout; have Hdone := Lib.hid hdone
      clear hout hdone hkv hj
      go_wp2_with fail
      go_ret
      have hd := Hdone.out.mono (fragE_le _ _)
      rw [hjn, ← Hn.out, List.take_length] at hd
      have ho := Hout.out
      rw [hjn, ← Hn.out, ← show (rowsOf [] ls).length = ls.length from Num.rowsOf_len _ _] at ho
      have := ListV.of_owns (R := ListV IntR) (E := []) ho (.inr (by simp)) (fun i hv hx => by rw [fragE_nil]; exact hd.2 i hv hx)
      rw [fragE_nil] at this
      exact ⟨_, rfl, this, hbel⟩

end Go.Proofs.Ytlilamlolnkboaa
