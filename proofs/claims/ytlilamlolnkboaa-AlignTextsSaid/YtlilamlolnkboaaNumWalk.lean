/- code.Number, walked. -/
import Derived.Test.YtlilamlolnkboaaNumMap
import Derived.Test.YtlilamlolnkboaaAppend
namespace Go.Proofs.Ytlilamlolnkboaa
open Go.RowKit Go.WideShapes
open Num (ix add rowOf rowsOf knownOf total)
set_option linter.unusedVariables false

theorem strs_mono (h h' : Frag) (v : Value) (x : List ByteArray) (hle : FLe h h') (hr : ListV StrR h v x) : ListV StrR h' v x := ListV.mono StrR.mono hr hle
theorem ints_mono' (h h' : Frag) (v : Value) (x : List Int) (hle : FLe h h') (hr : ListV IntR h v x) : ListV IntR h' v x := ListV.mono IntR.mono hr hle
theorem sizeStrs (w : World) : (Go.sizeOf (Try.prog.elem 44)).run Try.prog w = .ok 1 w := by kernel_rfl

/-- the outer loop at its head -/
def OutRel (w : World) (ls : List (List ByteArray)) (out i : Value) (wr : World) : Prop :=
  ∃ (j : Nat) (vs : List Value), j ≤ ls.length ∧ i = .int .i64 j ∧ wr.ownsRow w.heap.size 40 1 out j vs ∧ Done (fragE wr [out.ownBlock, some w.heap.size]) vs (rowsOf [] (ls.take j)) ∧
    MapIs wr w.heap.size (knownOf (ls.take j)).length (knownOf (ls.take j)) ∧ Below w.heap.size w wr ∧ w.heap.size < wr.heap.size
/-- the inner loop at its head -/
def InRel (w : World) (out rowv : Value) (j : Nat) (vs : List Value) (rows : List (List Int)) (kn l : List ByteArray) (i : Value) (wr : World) : Prop :=
  ∃ k : Nat, k ≤ l.length ∧ i = .int .i64 k ∧ wr.ownsRow w.heap.size 3 1 rowv l.length (intVals (rowOf kn (l.take k)) ++ List.replicate (l.length - k) (.int .i64 0)) ∧ wr.ownsRow w.heap.size 40 1 out j vs ∧
    Done (fragE wr [out.ownBlock, some w.heap.size, rowv.ownBlock]) vs rows ∧ MapIs wr w.heap.size ((l.take k).foldl add kn).length ((l.take k).foldl add kn) ∧ Below w.heap.size w wr ∧ w.heap.size < wr.heap.size

def NumPost (w : World) (ls : List (List ByteArray)) (e : Ending) (w' : World) : Prop :=
  ∃ u, e = .returned u ∧ ListV (ListV IntR) (frag w') u (rowsOf [] ls) ∧ Below w.heap.size w w'

theorem map_ne_owns {w : World} {b n : Nat} {kn : List ByteArray} (h : MapIs w b n kn) {base : Nat} {e : TypeId} {size : Nat} {v : Value} {m : Nat} {xs : List Value} (ho : w.ownsRow base e size v m xs) : some b ≠ v.ownBlock := by
  intro e2
  rcases ho.2 with ⟨rfl, _⟩ | ⟨g, cap, cur, rfl, _, hg, _⟩
  · simp [Value.ownBlock] at e2
  · simp [Value.ownBlock] at e2
    subst e2
    exact h.lt.2 _ _ _ hg

theorem InRel.step {w w1 : World} {out : Value} {g m j k : Nat} {vs : List Value} {rows : List (List Int)} {kn l kk : List ByteArray} {rk : List Int} {x : Int} (hm : l.length = m) (hk : k < m)
    (hrk : rowOf kn (l.take (k + 1)) = rk ++ [x]) (hl : rk.length = k) (hkk : (l.take (k + 1)).foldl add kn = kk)
    (hrow : w1.ownsRow w.heap.size 3 1 (.slice (some ⟨g, 0, none⟩) m m) m (intVals rk ++ List.replicate (m - k) (.int .i64 0)))
    (hout : w1.ownsRow w.heap.size 40 1 out j vs) (hdone : Done (fragE w1 [out.ownBlock, some w.heap.size, some g]) vs rows) (hmap : MapIs w1 w.heap.size kk.length kk) (hbel : Below w.heap.size w w1) (hsz : w.heap.size < w1.heap.size) :
    InRel w out (.slice (some ⟨g, 0, none⟩) m m) j vs rows kn l (.int .i64 ((k : Int) + 1)) (w1.setCell ⟨g, k, none⟩ (.int .i64 x)) := by
  obtain ⟨h1, h2⟩ := hrow.stored k (.int .i64 x)
  refine ⟨k + 1, by omega, by simp, ?_, ?_, ?_, ?_, ?_, ?_⟩
  · rw [hm, hrk, ← mid_set hl (show m - k = (m - (k + 1)) + 1 by omega)]
    exact h1
  · refine hout.kept h2 ?_
    rcases owns_apart hout hrow (fun e => types_ne e.symm) with h | h
    · left; exact h
    · right; exact h
  · exact hdone.mono (grownE h2 (.inr (by simp)) (fun _ h => .inl h))
  · rw [hkk]
    exact hmap.kept h2 (map_ne_owns hmap hrow)
  · exact hbel.grown h2 hbel.size (own_ge hrow)
  · exact Nat.lt_of_lt_of_le hsz h2.size

theorem OutRel.step {w w1 w2 : World} {out v' : Value} {g m j : Nat} {vs : List Value} {ls : List (List ByteArray)} {rows : List (List Int)} {kn l : List ByteArray} (hm : l.length = m) (hj : j < ls.length)
    (hrows : rowsOf [] (ls.take (j + 1)) = rows ++ [rowOf kn l]) (hkn : knownOf (ls.take (j + 1)) = l.foldl add kn)
    (hrow : w1.ownsRow w.heap.size 3 1 (.slice (some ⟨g, 0, none⟩) m m) m (intVals (rowOf kn l)))
    (hout : w1.ownsRow w.heap.size 40 1 out j vs) (hdone : Done (fragE w1 [out.ownBlock, some w.heap.size, some g]) vs rows) (hmap : MapIs w1 w.heap.size (l.foldl add kn).length (l.foldl add kn)) (hbel : Below w.heap.size w w1) (hsz : w.heap.size < w1.heap.size)
    (h1 : w2.ownsRow w.heap.size 40 1 v' (j + 1) (vs ++ [.slice (some ⟨g, 0, none⟩) m m])) (h2 : w1.grownBy w2 out.ownBlock) (h3 : v'.ownBlock = out.ownBlock ∨ v'.ownBlock = some (w1.heap.size + 1)) :
    OutRel w ls v' (.int .i64 ((j : Int) + 1)) w2 := by
  have hap : out.ownBlock ≠ some g := by
    rcases owns_apart hout hrow (fun e => types_ne e.symm) with h | h
    · rw [h]; simp
    · exact h
  have hrow2 := hrow.kept h2 (.inr (fun e => hap e.symm))
  have hmap2 := hmap.kept h2 (map_ne_owns hmap hout)
  have hap2 : v'.ownBlock ≠ some g := by
    rcases owns_apart h1 hrow2 (fun e => types_ne e.symm) with h | h
    · rw [h]; simp
    · exact h
  refine ⟨j + 1, _, by omega, by simp, h1, ?_, ?_, ?_, ?_⟩
  · rw [hrows]
    refine Done.snoc (hdone.mono (grownE h2 (.inr (by simp)) (fun k hk => ?_))) ?_
    · simp only [List.mem_cons, List.not_mem_nil, or_false] at hk ⊢
      rcases hk with h | h
      · rcases h3 with h3 | h3
        · left; left; rw [h, h3]
        · right; rw [h3] at h; cases h; omega
      · left; right; left; exact h
    · have hlen : (rowOf kn l).length = m := by rw [Num.rowOf_len, hm]
      rw [← hlen] at hrow2
      have hne : ¬ (Value.slice (some ⟨g, 0, none⟩) m m).ownBlock ∈ [v'.ownBlock, some w.heap.size] := by
        simp only [List.mem_cons, List.not_mem_nil, or_false]
        rintro (e | e)
        · exact hap2 e.symm
        · exact map_ne_owns hmap hrow e.symm
      have := ListV.of_owns (R := IntR) (xs := rowOf kn l) hrow2 (.inr (by rw [hlen]; exact hne)) (fun i hv hx => by simp [IntR, intVals])
      rw [hlen] at this
      exact this
  · rw [hkn]; exact hmap2
  · exact hbel.grown h2 hbel.size (own_ge hout)
  · exact Nat.lt_of_lt_of_le hsz h2.size

set_option maxRecDepth 100000 in
set_option maxHeartbeats 4000000 in
theorem number_any (v : Value) (ls : List (List ByteArray)) (w : World) (hl : ListV (ListV StrR) (frag w) v ls) (ht : total ls < 1000000) (hlen : ls.length ≤ 1000000) :
    Calls Try.prog 10 #[v] w (NumPost w ls) := by
  obtain ⟨a, cap, rfl, hlc, hcm, hnil⟩ := hl.len
  unfold maxLen at hcm
  have HL := Lib.hid hl; clear hl
  generalize hn : ls.length = n at HL hlc hlen ⊢
  have Hn := Lib.hid hn; clear hn hnil
  have hmm := @run_makeMap Try.prog
  obtain ⟨i0, hi, hz0, hz1, hz2⟩ := info_parts T_ints.info
  have Hi := Lib.hid hi; have Hz0 := Lib.hid hz0; have Hz1 := Lib.hid hz1; have Hz2 := Lib.hid hz2
  clear hi hz0 hz1 hz2
  go_enter Try.func10, Try.ntmps10
  go_wp2_with fail
  go_loopw [4, 15] (OutRel w ls) (fun _ i _ => n - (intOf i).toNat)
  case atStart =>
    exact ⟨0, [], Nat.zero_le _, rfl, World.ownsRow_nil _ _ _ _, ⟨rfl, fun x hv => by simp at hv⟩, MapIs.made w, (Below.refl _ _).alloc (Nat.le_refl _) _, by simp⟩
  case round =>
    obtain ⟨j, vs, hj, rfl, hout, hdone, hmap, hbel, hsz⟩ := hrel
    rw [Hn.out] at hj
    by_cases hlt : j < n
    · have hjs : j < ls.length := by rw [Hn.out]; exact hlt
      obtain ⟨b0, o0, u, hb0, hidx, hcell0, hu⟩ := ListV.at (n := n) (cap := cap) (a := a) (w := w) HL.out (i := j) hjs Try.underlying44 sizeStrs
      have hcell := (hbel.cell (p := ⟨b0, o0, none⟩) hb0).trans hcell0
      clear hcell0
      obtain ⟨al, cl, rfl, hlc2, hcm2, _⟩ := hu.len
      unfold maxLen at hcm2
      have Hu := Lib.hid hu; clear hu
      have hlt2 : ls[j].length < 1000000 := by
        have : ls[j].length ≤ total ls := Num.mem_total (List.getElem_mem hjs)
        omega
      have Hkn : Hid ((knownOf (ls.take j)).length + ls[j].length < 1000000) := by
        show _ < _
        have h1 := Num.knownOf_len (ls.take (j + 1)) []
        have h2 : total (ls.take (j + 1)) ≤ total ls := by
          unfold total
          have := List.take_append_drop (j + 1) ls
          conv => rhs; rw [← this]
          rw [List.map_append, List.sum_append]; omega
        have h3 : total (ls.take (j + 1)) = total (ls.take j) + ls[j].length := by
          unfold total; rw [Num.take_snoc ls hjs, List.map_append, List.sum_append]; simp
        have h4 := Num.knownOf_len (ls.take j) []
        unfold knownOf
        simp only [List.length_nil, Nat.zero_add] at h4
        omega
      have Hrows : Hid (rowsOf [] (ls.take (j + 1)) = rowsOf [] (ls.take j) ++ [rowOf (knownOf (ls.take j)) ls[j]]) := by
        show _ = _
        rw [Num.take_snoc ls hjs, Num.rowsOf_snoc]
      have Hknown : Hid (knownOf (ls.take (j + 1)) = ls[j].foldl add (knownOf (ls.take j))) := by
        show _ = _
        rw [Num.take_snoc ls hjs, Num.knownOf_snoc]
      generalize knownOf (ls.take j) = kn at *
      generalize rowsOf [] (ls.take j) = rows at *
      generalize ls[j] = l at *
      generalize hm : l.length = m at *
      have Hm := Lib.hid hm; clear hm
      have Hout := Lib.hid hout; have Hdone := Lib.hid hdone; have Hmap := Lib.hid hmap
      clear hout hdone hmap
      go_wp2_with (at_make; refine wpList_make_full _ rfl _ _ 40 rfl w.heap.size 3 i0 (.int .i64 0) 1 Try.underlying40 Hi.out Hz0.out Hz1.out .i64 .i64 _ _ m rfl rfl rfl rfl ?_ ?_ ?_ ?_)
      · rw [Hz2.out]; omega
      · unfold maxLen; omega
      · omega
      · intro w1 hrow hg1
        obtain ⟨g, hgd⟩ : ∃ g, g = wr.heap.size := ⟨_, rfl⟩
        rw [← hgd] at hrow ⊢
        have hap0 : u4.ownBlock ≠ some g := by
          have h := Hout.out
          rcases h.2 with ⟨e, _⟩ | ⟨g', cap', cur', e, _, hg', _⟩
          · rw [e]; simp [Value.ownBlock]
          · rw [e]; simp only [Value.ownBlock]; intro e2; cases e2
            have := heap_lt hg'
            omega
        have hsz1 : w.heap.size < w1.heap.size := Nat.lt_of_lt_of_le hsz hg1.size
        have hsep : (Value.slice (some ⟨g, 0, none⟩) m m).ownBlock = some g := rfl
        have hrel0 : InRel w u4 (.slice (some ⟨g, 0, none⟩) m m) j vs rows kn l (.int .i64 0) w1 := by
          refine ⟨0, Nat.zero_le _, rfl, ?_, Hout.out.kept hg1 (by cases u4.ownBlock <;> simp), ?_, Hmap.out.kept hg1 (by simp), hbel.grown hg1 hbel.size (by intro k hk; cases hk), hsz1⟩
          · rw [Hm.out]
            rw [toList_madeCells_one] at hrow
            simpa [rowOf, intVals] using hrow
          · refine Hdone.out.mono (grownE hg1 (.inl rfl) (fun k hk => ?_))
            rw [hsep] at hk
            simp only [List.mem_cons, Option.some.injEq, List.not_mem_nil, or_false] at hk ⊢
            rcases hk with h | h | h
            · exact .inl (.inl h)
            · exact .inl (.inr h)
            · right; omega
        have Hrel0 := Lib.hid hrel0; have Hgd := Lib.hid hgd
        clear hrel0 hrow hgd
        go_wp2_with fail
        obtain ⟨wo, rfl⟩ : ∃ wo : World, wo = wr := ⟨_, rfl⟩
        go_loopw [24] (InRel w u4 (.slice (some ⟨g, 0, none⟩) m m) j vs rows kn l) (fun i _ => m - (intOf i).toNat)
        case atStart => exact Hrel0.out
        case round =>
          obtain ⟨k, hk, rfl, hrow, hout, hdone, hmap, hbelI, hszI⟩ := hrel
          rw [Hm.out] at hk hrow
          by_cases hltk : k < m
          · have hks : k < l.length := by rw [Hm.out]; exact hltk
            obtain ⟨b1, o1, u1, hb1, hidx1, hcell10, hu1, hu1s⟩ := ListV.at (n := m) (cap := cl) (a := al) (w := w) Hu.out (i := k) hks Try.underlying22 sizeStr
            subst hu1
            have hcell1 := (hbelI.cell (p := ⟨b1, o1, none⟩) hb1).trans hcell10
            clear hcell10
            have Hrow' : Hid (rowOf kn (l.take (k + 1)) = rowOf kn (l.take k) ++ [(ix ((l.take k).foldl add kn) l[k] : Int)]) := by
              show _ = _
              rw [Num.take_snoc l hks, Num.rowOf_snoc]
            have Hadd : Hid ((l.take (k + 1)).foldl add kn = add ((l.take k).foldl add kn) l[k]) := by
              show _ = _
              rw [Num.take_snoc l hks, List.foldl_append]; rfl
            have hlk : ((l.take k).foldl add kn).length < 1000000 := by
              have := Num.foldl_len (l.take k) kn
              have h2 := Hkn.out
              simp only [List.length_take] at this
              omega
            have hrl : (rowOf kn (l.take k)).length = k := by rw [Num.rowOf_len, List.length_take]; omega
            generalize (l.take k).foldl add kn = kk at *
            generalize hrk : rowOf kn (l.take k) = rk at *
            have Hrk := Lib.hid hrk; clear hrk
            generalize l[k] = s at *
            have hixle := Num.ix_le kk s
            obtain ⟨c, hlook, hc⟩ := hmap.look s hu1s
            have hlen := hmap.len 3
            have Hset := Lib.hid (fun x : Int => mid_set (r := m - k) (r' := m - (k + 1)) hrl (by omega) x)
            have hmc := mid_cell (r := m - k) hrl (by omega)
            have Hrow := Lib.hid hrow; have Hout2 := Lib.hid hout; have Hdone2 := Lib.hid hdone; have Hmap2 := Lib.hid hmap
            have HrkL := Lib.hid hrl
            by_cases hi : ix kk s < kk.length
            · obtain rfl := hc hi
              have hd : decide (ix kk s < kk.length) = true := by simpa using hi
              have Hadd2 : Hid (add kk s = kk) := by show _ = _; unfold add; rw [if_neg (by omega)]
              have hc0 := (hrow.cellAt k (by omega))
              have hf0 := hrow.frozenAt k
              have hc1 : wr.cell? ⟨g, k, none⟩ = some (.int .i64 0) := by
                rw [hc0, hmc]
              clear hrow hout hdone hmap hc0 hc hi hmc hrl
              go_wp2_with fail
              go_roundw
              case rel => exact InRel.step Hm.out hltk Hrow'.out HrkL.out (Hadd.out.trans Hadd2.out) Hrow.out Hout2.out Hdone2.out Hmap2.out hbelI hszI
              case measure => simp [intOf]; omega
            · have hd : decide (ix kk s < kk.length) = false := by simpa using hi
              have hnew : ix kk s = kk.length := by omega
              have Hadd2 : Hid (add kk s = kk ++ [s]) := by show _ = _; unfold add; rw [if_pos hnew]
              obtain ⟨w2, hput, hmap3, hg2⟩ := hmap.put s hu1s hlk hnew hlk
              have hrow2 := hrow.kept hg2 (.inr (map_ne_owns hmap hrow).symm)
              have hc0 := (hrow2.cellAt k (by omega))
              have hf0 := hrow2.frozenAt k
              have hc1 : w2.cell? ⟨g, k, none⟩ = some (.int .i64 0) := by
                rw [hc0, hmc]
              have Hrow2 := Lib.hid hrow2
              have Hout3 := Lib.hid (hout.kept hg2 (.inr (map_ne_owns hmap hout).symm))
              have Hdone3 := Lib.hid (hdone.mono (grownE hg2 (.inr (by simp)) (fun _ h => .inl h)))
              have Hmap3 := Lib.hid hmap3
              have hbel2 := hbelI.grown hg2 hbelI.size (fun k e => by cases e; exact Nat.le_refl _)
              have hsz2 := Nat.lt_of_lt_of_le hszI hg2.size
              have Hnew := Lib.hid hnew
              clear hrow hout hdone hmap hc0 hc hi hmc hrl hrow2 hmap3 hg2 hnew
              go_wp2_with fail
              go_roundw
              case rel => exact InRel.step Hm.out hltk (by rw [Hrow'.out, Hnew.out]) HrkL.out (Hadd.out.trans Hadd2.out) Hrow2.out Hout3.out Hdone3.out (by rw [List.length_append]; exact Hmap3.out) hbel2 hsz2
              case measure => simp [intOf]; omega
          · have hkm : k = m := by omega
            subst hkm
            have Hrow := Lib.hid hrow; have Hout2 := Lib.hid hout; have Hdone2 := Lib.hid hdone; have Hmap2 := Lib.hid hmap
            clear hrow hout hdone hmap hk
            go_wp2_with (at_builtin; refine wpList_append_at T_intss rfl _ _ rfl #[_] rfl Hout2.out rfl rfl ?_ ?_ ?_ ?_)
            · simp [Value.oneCell']
            · omega
            · exact hbelI.size
            · intro v' w3 hown3 hg3 hat3
              have Hown3 := Lib.hid hown3; have Hat3 := Lib.hid hat3; have Hg3 := Lib.hid hg3
              clear hown3 hat3 hg3
              have Htake : Hid (l.take k = l) := by show _ = _; rw [← Hm.out, List.take_length]
              go_wp2_with fail
              go_roundw
              case rel =>
                refine OutRel.step Hm.out hjs Hrows.out Hknown.out ?_ Hout2.out Hdone2.out ?_ hbelI hszI Hown3.out Hg3.out Hat3.out
                · have := Hrow.out
                  rw [Htake.out, Nat.sub_self] at this
                  simpa using this
                · have := Hmap2.out
                  rw [Htake.out] at this
                  exact this
              case measure => simp [intOf]; omega
    · have hjn : j = n := by omega
      have Hout := Lib.hid hout; have Hdone := Lib.hid hdone; have Hmap := Lib.hid hmap
      clear hout hdone hmap hj
      go_wp2_with fail
      go_ret
      have hd := Hdone.out.mono (fragE_le _ _)
      rw [hjn, ← Hn.out, List.take_length] at hd
      have ho := Hout.out
      rw [hjn, ← Hn.out, ← show (rowsOf [] ls).length = ls.length from Num.rowsOf_len _ _] at ho
      have := ListV.of_owns (R := ListV IntR) (E := []) ho (.inr (by simp)) (fun i hv hx => by rw [fragE_nil]; exact hd.2 i hv hx)
      rw [fragE_nil] at this
      exact ⟨_, rfl, this, hbel⟩

end Go.Proofs.Ytlilamlolnkboaa
