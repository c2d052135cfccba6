/- redlineref20.Texts, walked. -/
import Derived.Test.YtlilamlolnkboaaAlPlain
import Derived.Test.YtlilamlolnkboaaMyRefTidy
import Derived.Test.YtlilamlolnkboaaNumRef
import Derived.Test.YtlilamlolnkboaaMade
namespace Go.Proofs.Ytlilamlolnkboaa
open Go.RowKit Go.WideShapes
open Num (ix add rowOf rowsOf knownOf total)
open My (steps)
set_option linter.unusedVariables false

theorem T_rsteps : SliceT Try.prog 28 34 (.agg #[.int .i64 0, .int .i64 0, .int .i64 0]) 3 24 := ⟨Try.underlying28, by kernel_rfl, rfl, by decide, by decide⟩
theorem sizeRStep (w : World) : (Go.sizeOf (Try.prog.elem 28)).run Try.prog w = .ok 3 w := by kernel_rfl

/-- the kinds of the steps of two lists of texts -/
def kindsOfR (la lb : List ByteArray) : List Nat := tidyK 0 0 (steps (rowOf [] la) (rowOf (la.foldl add []) lb))

def RxOut (w : World) (rs : List (Nat × Nat)) (rv out x y i : Value) (wr : World) : Prop :=
  ∃ k : Nat, k ≤ rs.length ∧ i = .int .i64 k ∧ x = .int .i64 (endX 0 (expand (rs.take k)) : Nat) ∧ y = .int .i64 (endY 0 (expand (rs.take k)) : Nat) ∧
    wr.ownsRow w.heap.size 34 3 out (expand (rs.take k)).length ((placed 0 0 (expand (rs.take k))).flatMap stepC) ∧ FlatV runC (fragE wr [out.ownBlock]) rv rs ∧ Below w.heap.size w wr
def RxIn (w : World) (rs : List (Nat × Nat)) (rv : Value) (pre : List Nat) (kk c bs : Nat) (out x y i : Value) (wr : World) : Prop :=
  ∃ q : Nat, q ≤ c ∧ i = .int .i64 q ∧ x = .int .i64 (endX 0 (pre ++ List.replicate q kk) : Nat) ∧ y = .int .i64 (endY 0 (pre ++ List.replicate q kk) : Nat) ∧
    wr.ownsRow w.heap.size 34 3 out (pre ++ List.replicate q kk).length ((placed 0 0 (pre ++ List.replicate q kk)).flatMap stepC) ∧ FlatV runC (fragE wr [out.ownBlock]) rv rs ∧ Below w.heap.size w wr ∧
    wr.cell? ⟨bs, 0, none⟩ = some (.int .i64 kk) ∧ wr.cell? ⟨bs, 1, none⟩ = some (.int .i64 c) ∧ bs < wr.heap.size ∧ out.ownBlock ≠ some bs
def RTextsPost (w : World) (ks : List Nat) (e : Ending) (w' : World) : Prop :=
  ∃ v, e = .returned v ∧ FlatV stepC (frag w') v (placed 0 0 ks) ∧ Below w.heap.size w w'

theorem RxIn.step {w wr w4 : World} {rs : List (Nat × Nat)} {rv out v' : Value} {pre : List Nat} {kk c bs q : Nat} (hq : q < c) (hown : wr.ownsRow w.heap.size 34 3 out (pre ++ List.replicate q kk).length ((placed 0 0 (pre ++ List.replicate q kk)).flatMap stepC))
    (hF : FlatV runC (fragE wr [out.ownBlock]) rv rs) (hbel : Below w.heap.size w wr) (hcell : wr.cell? ⟨bs, 0, none⟩ = some (.int .i64 kk)) (hcellC : wr.cell? ⟨bs, 1, none⟩ = some (.int .i64 c)) (hbl : bs < wr.heap.size) (hne : out.ownBlock ≠ some bs)
    (h5 : w4.ownsRow w.heap.size 34 3 v' ((pre ++ List.replicate q kk).length + 1) ((placed 0 0 (pre ++ List.replicate q kk)).flatMap stepC ++ stepC (stepOf kk (endX 0 (pre ++ List.replicate q kk)) (endY 0 (pre ++ List.replicate q kk)))))
    (h6 : wr.grownBy w4 out.ownBlock) (h7 : v'.ownBlock = out.ownBlock ∨ v'.ownBlock = some (wr.heap.size + 1 + 1)) :
    RxIn w rs rv pre kk c bs v' (.int .i64 (nextX kk (endX 0 (pre ++ List.replicate q kk)) : Nat)) (.int .i64 (nextY kk (endY 0 (pre ++ List.replicate q kk)) : Nat)) (.int .i64 ((q : Int) + 1)) w4 := by
  have h7' : v'.ownBlock = out.ownBlock ∨ ∃ g, v'.ownBlock = some g ∧ wr.heap.size ≤ g := h7.imp_right fun h => ⟨_, h, by omega⟩
  obtain ⟨hb, hf⟩ := own_carry hbel hown h6 h7'
  have hrep : pre ++ List.replicate (q + 1) kk = (pre ++ List.replicate q kk) ++ [kk] := by rw [List.replicate_succ', List.append_assoc]
  refine ⟨q + 1, by omega, by simp, by rw [hrep, endX_snoc], by rw [hrep, endY_snoc], ?_, hF.mono hf, hb, (grown_cell h6 hbl hne).trans hcell, (grown_cell h6 hbl hne).trans hcellC, Nat.lt_of_lt_of_le hbl h6.size, ne_carry hne hbl h7'⟩
  rw [hrep, placed_snoc, List.flatMap_append, List.length_append]
  simpa using h5

/-- a block that holds nothing holds no part of a row -/
theorem HRow.but {w : World} {a : Option Addr} {xs : List Value} {g : Nat} {t : TypeId} {fr : Nat × Nat} (h : HRow (frag w) a xs) (hg : w.heap[g]? = some (.cells #[] t fr)) : HRow (fragE w [some g]) a xs := by
  rcases h with h | ⟨b, off, cur, t', fr', rfl, hb, hc⟩
  · exact .inl h
  · by_cases e : b = g
    · subst e
      unfold frag at hb
      rw [hg] at hb
      cases hb
      left
      cases xs with
      | nil => rfl
      | cons x r => have := hc 0 (by simp); simp at this
    · refine .inr ⟨b, off, cur, t', fr', rfl, ?_, hc⟩
      unfold fragE
      rw [if_neg (by simpa using e)]
      exact hb

theorem grown_alloc {w w' : World} {o : Obj} {X : Option Nat} (h : (w.alloc o).grownBy w' X) : w.grownBy w' X :=
  ⟨h.os, h.tape, h.output, Nat.le_trans (by simp) h.size, fun k hk hne => (h.block k (by simp; omega) hne).trans (Below.heap_alloc w o k hk)⟩

/-- wpList_append_at with the block's number spelled otherwise -/
theorem wpList_append_at_g {P : Program} {t e : TypeId} {z : Value} {size bytes : Nat} (T : SliceT P t e z size bytes) {ops : Array Oper} {rest : List Oper} {o : Oper} {a : Act} {Q : Exit → Act → World → Prop} (hgd : o.guard = none) (s x : Operand)
    (ho : o.op = .call { callee := .builtin .append, args := #[s, x], argTypes := #[t, t] }) {W : World} {g base n : Nat} {v : Value} {xs : List Value} (new : Array Value)
    (hs : a.eval s = v) (hx : a.eval x = .slice (some ⟨g, 0, none⟩) 1 1) (hG : W.heap.size = g) (hown : W.ownsRow base e size v n xs) (hnew : new.size = size) (h1 : ∀ u ∈ new.toList, u.oneCell' = true)
    (hn : (n + 1) * bytes ≤ 140737488355328) (hbase : base ≤ W.heap.size)
    (h : ∀ v' w', w'.ownsRow base e size v' (n + 1) (xs ++ new.toList) → W.grownBy w' v.ownBlock → (v'.ownBlock = v.ownBlock ∨ v'.ownBlock = some (g + 1)) → wpList P ops Q rest (a.put o.dst v') w') : wpList P ops Q (o :: rest) a (W.alloc (.cells new e)) := by
  subst hG
  exact wpList_append_at T hgd s x ho new hs hown hx hnew h1 hn hbase h

set_option maxRecDepth 100000 in
set_option maxHeartbeats 8000000 in
theorem rtexts_any (v u : Value) (la lb : List ByteArray) (w : World) (hv : ListV StrR (frag w) v la) (hu : ListV StrR (frag w) u lb) (ha : la.length ≤ 100) (hb : lb.length ≤ 100) :
    Calls Try.prog 8 #[v, u] w (RTextsPost w (kindsOfR la lb)) := by
  obtain ⟨a1, c1, rfl, _⟩ := hv.len
  obtain ⟨a2, c2, rfl, _⟩ := hu.len
  have HN : Hid (Calls Try.prog 13 #[.slice (some ⟨w.heap.size, 0, none⟩) 2 2] (w.alloc (.cells #[.slice a1 la.length c1, .slice a2 lb.length c2] 22)) (NumPost (w.alloc (.cells #[.slice a1 la.length c1, .slice a2 lb.length c2] 22)) [la, lb])) := by
    refine refnumber_any _ [la, lb] _ ?_ (by simp [total]; omega) (by simp)
    refine ListV.made #[_, _] [la, lb] rfl rfl (by decide) (fun i hv' hx => ?_)
    match i with
    | 0 => exact ListV.mono StrR.mono hv (alloc_le _ _)
    | 1 => exact ListV.mono StrR.mono hu (alloc_le _ _)
    | i + 2 => simp at hx; omega
  have hla : (rowOf [] la).length = la.length := Num.rowOf_len _ _
  have hlb : (rowOf (la.foldl add []) lb).length = lb.length := Num.rowOf_len _ _
  clear hv hu
  generalize la.length = n at *
  generalize lb.length = m at *
  go_enter Try.func8, Try.ntmps8
  go_wp2_with fail
  refine HN.out.mono ?_
  rintro e w1 ⟨nv, rfl, hnv, hb1⟩
  have hbw : Below w.heap.size w w1 := ((Below.refl w.heap.size w).alloc (Nat.le_refl _) _).trans (hb1.mono (by simp))
  obtain ⟨an, cn, rfl, _⟩ := hnv.len
  obtain ⟨b0, o0, u0, hb0, hidx0, hcell0, hu0⟩ := ListV.at hnv (i := 0) (by simp [rowsOf]) Try.underlying35 sizeIntss
  obtain ⟨b1, o1, u1, hb1', hidx1, hcell1, hu1⟩ := ListV.at hnv (i := 1) (by simp [rowsOf]) Try.underlying35 sizeIntss
  have hl2 : (rowsOf [] [la, lb]).length = 2 := rfl
  rw [hl2] at hidx0 hidx1 ⊢
  rw [show ((0 : Nat) : Int) = 0 from rfl] at hidx0
  rw [show ((1 : Nat) : Int) = 1 from rfl] at hidx1
  simp only [rowsOf, List.getElem_cons_zero, List.getElem_cons_succ] at hu0 hu1
  have hnat : (w1.alloc (.cells #[] 34)).heap.size = w1.heap.size + 1 := by simp
  have HA := Lib.hid (fun (wx : World) (h : Below w1.heap.size w1 wx) => refsteps_any _ _ u0 u1 wx (ListV.mono IntR.mono hu0 (below_le h)) (ListV.mono IntR.mono hu1 (below_le h)) (by rw [hla]; omega) (by rw [hlb]; omega) (by rw [hla, hlb]; omega))
  have HBa := Lib.hid (fun (wx : World) (h : Below (w1.alloc (.cells #[] 34)).heap.size (w1.alloc (.cells #[] 34)) wx) => ((Below.refl w1.heap.size w1).alloc (Nat.le_refl _) (.cells #[] 34)).trans (h.mono (by simp)))
  have hfree : HRow (fragE (w1.alloc (.cells #[] 34)) []) (some ⟨w1.heap.size, 0, none⟩) [] := .inl rfl
  obtain ⟨ks, hks⟩ : ∃ ks, ks = kindsOfR la lb := ⟨_, rfl⟩
  rw [← hks]
  have Hks := Lib.hid hks
  have HK := Lib.hid (My.steps_kinds _ (rowOf [] la) (rowOf (la.foldl add []) lb) (Nat.le_refl _))
  rw [hla, hlb] at HK
  have Hcp := Lib.hid (compress_good HK.out.1)
  have Hce := Lib.hid (expand_compress (steps (rowOf [] la) (rowOf (la.foldl add []) lb)))
  have hcellA := (Below.cell ((Below.refl w1.heap.size w1).alloc (Nat.le_refl _) (.cells #[] 34)) (p := ⟨b0, o0, none⟩) hb0).trans hcell0
  have hcellB := (Below.cell ((Below.refl w1.heap.size w1).alloc (Nat.le_refl _) (.cells #[] 34)) (p := ⟨b1, o1, none⟩) hb1').trans hcell1
  clear hks hnv hu0 hu1 hb1 HN hl2 hfree hnat
  go_wp2_with fail
  go_region_with (first
    | (go_at_call 16; refine (HA.out _ (HBa.out _ (by first | exact Below.refl _ _ | exact (Below.refl _ _).drew))).mono ?_; rintro e w2 ⟨v2, rfl, hL2, hB2⟩)
    | (go_at_call 15; refine (refruns_any _ _ _ hL2 (by have := HK.out.2; omega)).mono ?_; rintro e w3 ⟨v3, rfl, hF3, hB3⟩)
    | (go_at_call 14; refine (reftidy_any _ _ _ hF3 Hcp.out (by rw [Hce.out]; have := HK.out.2; omega)).mono ?_; rintro e w4 ⟨v4, rfl, hF4, hB4⟩; obtain ⟨a3, c3, rfl, _⟩ := hF4.len))
  all_goals
    have hbw2 : Below w.heap.size w w4 ∧ Below (w1.heap.size + 1) (w1.alloc (.cells #[] 34)) w4 := by
      have h0 : Below (w1.heap.size + 1) (w1.alloc (.cells #[] 34)) w2 := by
        first
          | (have h' : Below (w1.heap.size + 1) (w1.alloc (.cells #[] 34)).drew w2 := by simpa using hB2
             exact (Below.drewN (Below.refl (w1.heap.size + 1) (w1.alloc (.cells #[] 34))) 1).trans h')
          | simpa using hB2
      have h1 := (h0.trans (hB3.mono (by have := h0.size; simpa using this)))
      have h2 := (h1.trans (hB4.mono (by have := h1.size; simpa using this)))
      exact ⟨(hbw.alloc hbw.size _).trans (h2.mono (by have := hbw.size; omega)), h2⟩
    have hex : expand (compress (tidyK 0 0 (expand (compress (steps (rowOf [] la) (rowOf (la.foldl add []) lb)))))) = ks := by rw [expand_compress, Hce.out, Hks.out]; rfl
    have hG4 : Good (compress (tidyK 0 0 (expand (compress (steps (rowOf [] la) (rowOf (la.foldl add []) lb)))))) := compress_good (tidyK_kinds _ 0 0)
    have hkl : ks.length ≤ n + m := by
      rw [Hks.out]; unfold kindsOfR
      have h9 := (tidyK_len (steps (rowOf [] la) (rowOf (la.foldl add []) lb)) 0 0).1; have h8 := HK.out.2; omega
    have hrow := World.ownsRow_lit (base := w.heap.size) (e := 34) (size := 3) w1 #[] 0 hbw.size (by decide) rfl
    have hrow4 : w4.ownsRow w.heap.size 34 3 (.slice (some ⟨w1.heap.size, 0, none⟩) 0 0) 0 [] := owns_below (w := w1.alloc (.cells #[] 34)) hrow (by simpa using hbw2.2)
    have hfr : FlatV runC (fragE w4 [some w1.heap.size]) (.slice a3 (compress (tidyK 0 0 (expand (compress (steps (rowOf [] la) (rowOf (la.foldl add []) lb)))))).length c3) (compress (tidyK 0 0 (expand (compress (steps (rowOf [] la) (rowOf (la.foldl add []) lb)))))) := by
      obtain ⟨a', c', e, g1, g2, g3, g4⟩ := hF4
      cases e
      exact ⟨a3, c3, rfl, g1, g2, g3, g4.but (t := 34) (fr := (0, 0)) (by rw [hbw2.2.block w1.heap.size (by omega)]; exact Array.getElem?_push_size)⟩
    generalize compress (tidyK 0 0 (expand (compress (steps (rowOf [] la) (rowOf (la.foldl add []) lb))))) = s3 at *
    have HF := Lib.hid hfr; have HG := Lib.hid hG4; have Hex := Lib.hid hex; have Hkl := Lib.hid hkl; have Hrow4 := Lib.hid hrow4; have hbw3 := hbw2.1
    have Hlen := Lib.hid (expand_len_ge hG4)
    have hs3 := (expand_len_ge hG4).1
    rw [hex] at hs3
    clear hF4 hG4 hL2 hF3 hB2 hB3 hB4 hcell0 hcell1 hcellA hcellB hidx0 hidx1 hla hlb hex hrow hrow4 hfr hbw2
    generalize hr : s3.length = r at *
    have Hr := Lib.hid hr; clear hr
    go_wp2_with fail
    simp only [List.getElem_toArray, List.getElem_cons_succ, List.getElem_cons_zero]
    go_frame
    go_loopw [6, 7, 8, 27] (RxOut w s3 (.slice a3 r c3)) (fun _ _ _ i _ => r - (intOf i).toNat)
    case atStart =>
      exact ⟨0, Nat.zero_le _, rfl, rfl, rfl, Hrow4.out, HF.out, hbw3⟩
    case round =>
      obtain ⟨k, hk, rfl, rfl, rfl, hown, hF, hbel⟩ := hrel
      rw [Hr.out] at hk
      have hs0 := hbel.size
      by_cases hlt : k < r
      · have hks : k < s3.length := by rw [Hr.out]; exact hlt
        obtain ⟨b8, o8, hb8, hidx8, hcell'⟩ := FlatV.at (hF.mono (fragE_le _ _)) runC_len (by decide) (i := k) hks Try.underlying45 sizeRun'
        obtain ⟨⟨kk, c⟩, hrs⟩ : ∃ x, s3[k] = x := ⟨_, rfl⟩
        have hgk := HG.out s3[k] (List.getElem_mem _)
        have hexp := Hlen.out.2 s3[k] (List.getElem_mem _)
        rw [Hex.out] at hexp
        have hkl := Hkl.out
        rw [hrs] at hgk hexp hcell'
        simp only at hgk hexp
        have hcA := hcell' 0 _ rfl
        have hcB := hcell' 1 _ rfl
        rw [Nat.add_zero] at hcA
        have hpre : (expand (s3.take k)).length + c ≤ ks.length := by
          have h1 : expand s3 = expand (s3.take k) ++ expand (s3.drop k) := by rw [← expand_append, List.take_append_drop]
          rw [List.drop_eq_getElem_cons hks, hrs, expand_cons, Hex.out] at h1
          rw [h1]; simp
        have hin : RxIn w s3 (.slice a3 r c3) (expand (s3.take k)) kk c wr.heap.size u6 (.int .i64 (endX 0 (expand (s3.take k)) : Nat)) (.int .i64 (endY 0 (expand (s3.take k)) : Nat)) (.int .i64 0) (wr.alloc (.cells #[.int .i64 kk, .int .i64 c] 49)) := by
          obtain ⟨h5, h6⟩ := struct2_cells (Below.refl _ (wr.alloc (.cells #[.int .i64 kk, .int .i64 c] 49)))
          refine ⟨0, Nat.zero_le _, rfl, by simp, by simp, by simpa using hown.alloc _, hF.mono (allocE _ _ _), hbel.alloc hs0 _, h5, h6, by simp, own_ne hown (Nat.le_refl _)⟩
        have Hin := Lib.hid hin; have Hrs := Lib.hid hrs; have Hpre := Lib.hid hpre
        obtain ⟨bs, hbs⟩ : ∃ bs, bs = wr.heap.size := ⟨_, rfl⟩
        have Hbs := Lib.hid hbs
        rw [← hbs] at Hin
        clear hin hcell' hrs hbs hpre hown hF
        obtain ⟨x, hx⟩ : ∃ x, x = endX 0 (expand (s3.take k)) := ⟨_, rfl⟩
        obtain ⟨y, hy⟩ : ∃ x, x = endY 0 (expand (s3.take k)) := ⟨_, rfl⟩
        rw [← hx, ← hy] at Hin ⊢
        clear hx hy
        go_wp2_with fail
        rw [← Hbs.out]
        obtain ⟨wo, rfl⟩ : ∃ wo : World, wo = wr := ⟨_, rfl⟩
        go_loopw [6, 7, 8, 11] (RxIn w s3 (.slice a3 r c3) (expand (s3.take k)) kk c bs) (fun _ _ _ i _ => c - (intOf i).toNat)
        case atStart => exact Hin.out
        case round =>
          obtain ⟨q, hq, rfl, rfl, rfl, hown, hF, hbel, hcK, hcC, hbl, hn1⟩ := hrel
          have hs1 := hbel.size
          have hL : (expand (s3.take k) ++ List.replicate q kk).length ≤ n + m := by
            have := Hpre.out; simp; omega
          have he := end_le (expand (s3.take k) ++ List.replicate q kk) 0
          have Hn1' := Lib.hid hn1
          have HS := Lib.hid (fun (v' : Value) (w4 : World) hq h5 h6 h7 => RxIn.step (c := c) (w4 := w4) (v' := v') hq hown hF hbel hcK hcC hbl hn1 h5 h6 h7)
          have Hown := Lib.hid hown; have HF2 := Lib.hid hF; have Hn1 := Lib.hid hn1
          by_cases hqc : q < c
          · have hkk : kk = 1 ∨ kk = 2 ∨ kk = 3 := by omega
            clear hown hF hn1 Hin hgk HF2
            generalize expand (s3.take k) ++ List.replicate q kk = ex at *
            generalize endX 0 ex = X at *
            generalize endY 0 ex = Y at *
            generalize hEL : ex.length = L at *
            clear hEL
            rcases hkk with hkk | hkk | hkk
            · rw [hkk, show ((1 : Nat) : Int) = 1 from rfl] at hcK
              have Hkk := Lib.hid hkk; clear hkk
              go_wp2_with (at_builtin; refine wpList_append_at_g T_rsteps rfl _ _ rfl #[_, _, _] rfl rfl (World.size_alloc _ _) (Hown.out.alloc _) rfl (by simp [Value.oneCell']) (by omega) (by simp; omega) ?_)
              intro v4 w4 h5 h6 h7
              have Hrel : Hid (RxIn w s3 (.slice a3 r c3) (expand (s3.take k)) kk c bs v4 (.int .i64 ((X : Int) + 1)) (.int .i64 ((Y : Int) + 1)) (.int .i64 ((q : Int) + 1)) w4) := by
                have := HS.out v4 w4 hqc (by rw [Hkk.out]; exact h5) (grown_alloc h6) (by simpa using h7)
                rw [Hkk.out] at this ⊢
                exact this
              have hK4 := (grown_cell (grown_alloc h6) hbl Hn1.out).trans hcK
              have hC4 := (grown_cell (grown_alloc h6) hbl Hn1.out).trans hcC
              clear h5 h6 h7
              go_wp2_with fail
              go_roundw
              case rel => exact Hrel.out
              case measure => simp [intOf]; omega
            · rw [hkk, show ((2 : Nat) : Int) = 2 from rfl] at hcK
              have Hkk := Lib.hid hkk; clear hkk
              go_wp2_with (at_builtin; refine wpList_append_at_g T_rsteps rfl _ _ rfl #[_, _, _] rfl rfl (World.size_alloc _ _) (Hown.out.alloc _) rfl (by simp [Value.oneCell']) (by omega) (by simp; omega) ?_)
              intro v4 w4 h5 h6 h7
              have Hrel : Hid (RxIn w s3 (.slice a3 r c3) (expand (s3.take k)) kk c bs v4 (.int .i64 ((X : Int) + 1)) (.int .i64 (Y : Int)) (.int .i64 ((q : Int) + 1)) w4) := by
                have := HS.out v4 w4 hqc (by rw [Hkk.out]; exact h5) (grown_alloc h6) (by simpa using h7)
                rw [Hkk.out] at this ⊢
                exact this
              have hK4 := (grown_cell (grown_alloc h6) hbl Hn1.out).trans hcK
              have hC4 := (grown_cell (grown_alloc h6) hbl Hn1.out).trans hcC
              clear h5 h6 h7
              go_wp2_with fail
              go_roundw
              case rel => exact Hrel.out
              case measure => simp [intOf]; omega
            · rw [hkk, show ((3 : Nat) : Int) = 3 from rfl] at hcK
              have Hkk := Lib.hid hkk; clear hkk
              go_wp2_with (at_builtin; refine wpList_append_at_g T_rsteps rfl _ _ rfl #[_, _, _] rfl rfl (World.size_alloc _ _) (Hown.out.alloc _) rfl (by simp [Value.oneCell']) (by omega) (by simp; omega) ?_)
              intro v4 w4 h5 h6 h7
              have Hrel : Hid (RxIn w s3 (.slice a3 r c3) (expand (s3.take k)) kk c bs v4 (.int .i64 (X : Int)) (.int .i64 ((Y : Int) + 1)) (.int .i64 ((q : Int) + 1)) w4) := by
                have := HS.out v4 w4 hqc (by rw [Hkk.out]; exact h5) (grown_alloc h6) (by simpa using h7)
                rw [Hkk.out] at this ⊢
                exact this
              have hK4 := (grown_cell (grown_alloc h6) hbl Hn1.out).trans hcK
              have hC4 := (grown_cell (grown_alloc h6) hbl Hn1.out).trans hcC
              clear h5 h6 h7
              go_wp2_with fail
              go_roundw
              case rel => exact Hrel.out
              case measure => simp [intOf]; omega
          · obtain rfl : q = c := by omega
            have hpc : expand (s3.take k) ++ List.replicate q kk = expand (s3.take (k + 1)) := by
              rw [List.take_succ_eq_append_getElem hks, expand_append, Hrs.out]; simp [expand]
            have Hrel : Hid (RxOut w s3 (.slice a3 r c3) u6 (.int .i64 (endX 0 (expand (s3.take k) ++ List.replicate q kk) : Nat)) (.int .i64 (endY 0 (expand (s3.take k) ++ List.replicate q kk) : Nat)) (.int .i64 ((k : Int) + 1)) wr) := by
              rw [hpc] at hown ⊢
              exact ⟨k + 1, hks, by simp, rfl, rfl, hown, hF, hbel⟩
            clear hpc hown hF hn1 Hin hgk
            go_wp2_with fail
            go_roundw
            case rel => exact Hrel.out
            case measure => simp [intOf]; omega
      · obtain rfl : k = r := by omega
        rw [← Hr.out, List.take_length, Hex.out] at hown
        have Hown := Lib.hid hown
        clear hown hF hk
        go_wp2_with fail
        go_ret
        have hP := FlatV.of_owns (f := stepC) (E := []) Hown.out (placed_len _ _ _) (.inr (by simp))
        rw [fragE_nil, Hks.out] at hP
        exact ⟨_, rfl, hP, hbel⟩

end Go.Proofs.Ytlilamlolnkboaa
