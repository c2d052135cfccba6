/- align.Texts, walked. -/
import Derived.Test.YtlilamlolnkboaaAlPlain
import Derived.Test.YtlilamlolnkboaaMyTidy
import Derived.Test.YtlilamlolnkboaaMyAlign
import Derived.Test.YtlilamlolnkboaaNumRef
import Derived.Test.YtlilamlolnkboaaMade
namespace Go.Proofs.Ytlilamlolnkboaa
open Go.RowKit Go.WideShapes
open Num (ix add rowOf rowsOf knownOf total)
open My (steps)
set_option linter.unusedVariables false

theorem T_steps : SliceT Try.prog 25 31 (.agg #[.int .i64 0, .int .i64 0, .int .i64 0]) 3 24 := ⟨Try.underlying25, by kernel_rfl, rfl, by decide, by decide⟩
theorem sizeStep (w : World) : (Go.sizeOf (Try.prog.elem 25)).run Try.prog w = .ok 3 w := by kernel_rfl

/-- the kinds of the steps of two lists of texts -/
def kindsOf (la lb : List ByteArray) : List Nat := tidyK 0 0 (steps (rowOf [] la) (rowOf (la.foldl add []) lb))

def TxOut (w : World) (rs : List (Nat × Nat)) (rv out x y i : Value) (wr : World) : Prop :=
  ∃ k : Nat, k ≤ rs.length ∧ i = .int .i64 k ∧ x = .int .i64 (endX 0 (expand (rs.take k)) : Nat) ∧ y = .int .i64 (endY 0 (expand (rs.take k)) : Nat) ∧
    wr.ownsRow w.heap.size 31 3 out (expand (rs.take k)).length ((placed 0 0 (expand (rs.take k))).flatMap stepC) ∧ FlatV runC (fragE wr [out.ownBlock]) rv rs ∧ Below w.heap.size w wr
def TxIn (w : World) (rs : List (Nat × Nat)) (rv : Value) (pre : List Nat) (kk c bs : Nat) (out x y i : Value) (wr : World) : Prop :=
  ∃ q : Nat, q ≤ c ∧ i = .int .i64 q ∧ x = .int .i64 (endX 0 (pre ++ List.replicate q kk) : Nat) ∧ y = .int .i64 (endY 0 (pre ++ List.replicate q kk) : Nat) ∧
    wr.ownsRow w.heap.size 31 3 out (pre ++ List.replicate q kk).length ((placed 0 0 (pre ++ List.replicate q kk)).flatMap stepC) ∧ FlatV runC (fragE wr [out.ownBlock]) rv rs ∧ Below w.heap.size w wr ∧
    wr.cell? ⟨bs, 0, none⟩ = some (.int .i64 kk) ∧ bs < wr.heap.size ∧ out.ownBlock ≠ some bs
def TextsPost (w : World) (ks : List Nat) (e : Ending) (w' : World) : Prop :=
  ∃ v, e = .returned v ∧ FlatV stepC (frag w') v (placed 0 0 ks) ∧ Below w.heap.size w w'

theorem TxIn.step {w wr w4 : World} {rs : List (Nat × Nat)} {rv out v' : Value} {pre : List Nat} {kk c bs q : Nat} (hq : q < c) (hown : wr.ownsRow w.heap.size 31 3 out (pre ++ List.replicate q kk).length ((placed 0 0 (pre ++ List.replicate q kk)).flatMap stepC))
    (hF : FlatV runC (fragE wr [out.ownBlock]) rv rs) (hbel : Below w.heap.size w wr) (hcell : wr.cell? ⟨bs, 0, none⟩ = some (.int .i64 kk)) (hbl : bs < wr.heap.size) (hne : out.ownBlock ≠ some bs)
    (h5 : w4.ownsRow w.heap.size 31 3 v' ((pre ++ List.replicate q kk).length + 1) ((placed 0 0 (pre ++ List.replicate q kk)).flatMap stepC ++ stepC (stepOf kk (endX 0 (pre ++ List.replicate q kk)) (endY 0 (pre ++ List.replicate q kk)))))
    (h6 : wr.grownBy w4 out.ownBlock) (h7 : v'.ownBlock = out.ownBlock ∨ v'.ownBlock = some (wr.heap.size + 1)) :
    TxIn w rs rv pre kk c bs v' (.int .i64 (nextX kk (endX 0 (pre ++ List.replicate q kk)) : Nat)) (.int .i64 (nextY kk (endY 0 (pre ++ List.replicate q kk)) : Nat)) (.int .i64 ((q : Int) + 1)) w4 := by
  have h7' : v'.ownBlock = out.ownBlock ∨ ∃ g, v'.ownBlock = some g ∧ wr.heap.size ≤ g := h7.imp_right fun h => ⟨_, h, by omega⟩
  obtain ⟨hb, hf⟩ := own_carry hbel hown h6 h7'
  have hrep : pre ++ List.replicate (q + 1) kk = (pre ++ List.replicate q kk) ++ [kk] := by rw [List.replicate_succ', List.append_assoc]
  refine ⟨q + 1, by omega, by simp, by rw [hrep, endX_snoc], by rw [hrep, endY_snoc], ?_, hF.mono hf, hb, (grown_cell h6 hbl hne).trans hcell, Nat.lt_of_lt_of_le hbl h6.size, ne_carry hne hbl h7'⟩
  rw [hrep, placed_snoc, List.flatMap_append, List.length_append]
  simpa using h5

set_option maxRecDepth 100000 in
set_option maxHeartbeats 8000000 in
theorem texts_any (v u : Value) (la lb : List ByteArray) (w : World) (hv : ListV StrR (frag w) v la) (hu : ListV StrR (frag w) u lb) (ha : la.length ≤ 100) (hb : lb.length ≤ 100) :
    Calls Try.prog 6 #[v, u] w (TextsPost w (kindsOf la lb)) := by
  obtain ⟨a1, c1, rfl, _⟩ := hv.len
  obtain ⟨a2, c2, rfl, _⟩ := hu.len
  have HN : Hid (Calls Try.prog 10 #[.slice (some ⟨w.heap.size, 0, none⟩) 2 2] (w.alloc (.cells #[.slice a1 la.length c1, .slice a2 lb.length c2] 22)) (NumPost (w.alloc (.cells #[.slice a1 la.length c1, .slice a2 lb.length c2] 22)) [la, lb])) := by
    refine number_any _ [la, lb] _ ?_ (by simp [total]; omega) (by simp)
    refine ListV.made #[_, _] [la, lb] rfl rfl (by decide) (fun i hv' hx => ?_)
    match i with
    | 0 => exact ListV.mono StrR.mono hv (alloc_le _ _)
    | 1 => exact ListV.mono StrR.mono hu (alloc_le _ _)
    | i + 2 => simp at hx; omega
  have hla : (rowOf [] la).length = la.length := Num.rowOf_len _ _
  have hlb : (rowOf (la.foldl add []) lb).length = lb.length := Num.rowOf_len _ _
  clear hv hu
  generalize la.length = n at *
  generalize lb.length = m at *
  go_enter Try.func6, Try.ntmps6
  go_wp2_with fail
  refine HN.out.mono ?_
  rintro e w1 ⟨nv, rfl, hnv, hb1⟩
  have hbw : Below w.heap.size w w1 := ((Below.refl w.heap.size w).alloc (Nat.le_refl _) _).trans (hb1.mono (by simp))
  obtain ⟨an, cn, rfl, _⟩ := hnv.len
  obtain ⟨b0, o0, u0, hb0, hidx0, hcell0, hu0⟩ := ListV.at hnv (i := 0) (by simp [rowsOf]) Try.underlying35 sizeIntss
  obtain ⟨b1, o1, u1, hb1', hidx1, hcell1, hu1⟩ := ListV.at hnv (i := 1) (by simp [rowsOf]) Try.underlying35 sizeIntss
  have hl2 : (rowsOf [] [la, lb]).length = 2 := rfl
  rw [hl2] at hidx0 hidx1 ⊢
  rw [show ((0 : Nat) : Int) = 0 from rfl] at hidx0
  rw [show ((1 : Nat) : Int) = 1 from rfl] at hidx1
  simp only [rowsOf, List.getElem_cons_zero, List.getElem_cons_succ] at hu0 hu1
  have HA := Lib.hid (fun (wx : World) (h : Below w1.heap.size w1 wx) => align_any _ _ u0 u1 wx (ListV.mono IntR.mono hu0 (below_le h)) (ListV.mono IntR.mono hu1 (below_le h)) (by rw [hla]; omega) (by rw [hlb]; omega) (by rw [hla, hlb]; omega))
  obtain ⟨ks, hks⟩ : ∃ ks, ks = kindsOf la lb := ⟨_, rfl⟩
  rw [← hks]
  have Hks := Lib.hid hks
  have HK := Lib.hid (My.steps_kinds _ (rowOf [] la) (rowOf (la.foldl add []) lb) (Nat.le_refl _)).2
  rw [hla, hlb] at HK
  clear hks hnv hu0 hu1 hb1 HN hl2
  go_wp2_with fail
  go_region_with (first
    | (go_at_call 12; refine (HA.out _ (by first | exact Below.refl _ _ | exact (Below.refl _ _).drew)).mono ?_; rintro e w2 ⟨v2, s2, rfl, hF2, hG2, hE2, hB2⟩)
    | (go_at_call 11; refine (tidy_any _ _ _ hF2 hG2 (by rw [hE2]; have := HK.out; omega)).mono ?_; rintro e w3 ⟨v3, s3, rfl, hF3, hG3, hE3, hB3⟩; obtain ⟨a3, c3, rfl, _⟩ := hF3.len))
  all_goals
    have hbw2 : Below w.heap.size w w3 := by
      have h1 : Below w1.heap.size w1 w2 := by first | exact hB2 | exact (Below.drewN (Below.refl _ _) 1).trans hB2
      exact (hbw.trans (h1.mono hbw.size)).trans (hB3.mono (Nat.le_trans hbw.size h1.size))
    have hex : expand s3 = ks := by rw [hE3, hE2, Hks.out]; rfl
    have hkl : ks.length ≤ n + m := by
      rw [Hks.out]; unfold kindsOf
      have h9 := (tidyK_len (steps (rowOf [] la) (rowOf (la.foldl add []) lb)) 0 0).1; have h8 := HK.out; omega
    have HF := Lib.hid hF3; have HG := Lib.hid hG3; have Hex := Lib.hid hex; have Hkl := Lib.hid hkl
    have Hlen := Lib.hid (expand_len_ge hG3)
    have hs3 := (expand_len_ge hG3).1
    rw [hex] at hs3
    clear hF3 hG3 hE3 hE2 hF2 hG2 hB2 hB3 hcell0 hcell1 hidx0 hidx1 hla hlb hex
    generalize hr : s3.length = r at *
    have Hr := Lib.hid hr; clear hr
    go_wp2_with fail
    simp only [List.getElem_toArray, List.getElem_cons_succ, List.getElem_cons_zero]
    go_frame
    go_loopw [6, 7, 8, 24] (TxOut w s3 (.slice a3 r c3)) (fun _ _ _ i _ => r - (intOf i).toNat)
    case atStart =>
      refine ⟨0, Nat.zero_le _, rfl, rfl, rfl, World.ownsRow_nil _ _ _ _, ?_, hbw2⟩
      have h := HF.out
      rw [← fragE_nil] at h
      exact h.mono (subE _ (by simp [Value.ownBlock]))
    case round =>
      obtain ⟨k, hk, rfl, rfl, rfl, hown, hF, hbel⟩ := hrel
      rw [Hr.out] at hk
      have hs0 := hbel.size
      by_cases hlt : k < r
      · have hks : k < s3.length := by rw [Hr.out]; exact hlt
        obtain ⟨b8, o8, hb8, hidx8, hcell'⟩ := FlatV.at (hF.mono (fragE_le _ _)) runC_len (by decide) (i := k) hks Try.underlying37 sizeRun
        obtain ⟨⟨kk, c⟩, hrs⟩ : ∃ x, s3[k] = x := ⟨_, rfl⟩
        have hgk := HG.out s3[k] (List.getElem_mem _)
        have hexp := Hlen.out.2 s3[k] (List.getElem_mem _)
        rw [Hex.out] at hexp
        have hkl := Hkl.out
        rw [hrs] at hgk hexp hcell'
        simp only at hgk hexp
        have hcA := hcell' 0 _ rfl
        have hcB := hcell' 1 _ rfl
        rw [Nat.add_zero] at hcA
        have hpre : (expand (s3.take k)).length + c ≤ ks.length := by
          have h1 : expand s3 = expand (s3.take k) ++ expand (s3.drop k) := by rw [← expand_append, List.take_append_drop]
          rw [List.drop_eq_getElem_cons hks, hrs, expand_cons, Hex.out] at h1
          rw [h1]; simp
        have hin : TxIn w s3 (.slice a3 r c3) (expand (s3.take k)) kk c wr.heap.size u6 (.int .i64 (endX 0 (expand (s3.take k)) : Nat)) (.int .i64 (endY 0 (expand (s3.take k)) : Nat)) (.int .i64 0) (wr.alloc (.cells #[.int .i64 kk, .int .i64 c] 42)) := by
          obtain ⟨h5, h6⟩ := struct2_cells (Below.refl _ (wr.alloc (.cells #[.int .i64 kk, .int .i64 c] 42)))
          refine ⟨0, Nat.zero_le _, rfl, by simp, by simp, by simpa using hown.alloc _, hF.mono (allocE _ _ _), hbel.alloc hs0 _, h5, by simp, own_ne hown (Nat.le_refl _)⟩
        have Hin := Lib.hid hin; have Hrs := Lib.hid hrs; have Hpre := Lib.hid hpre
        obtain ⟨bs, hbs⟩ : ∃ bs, bs = wr.heap.size := ⟨_, rfl⟩
        have Hbs := Lib.hid hbs
        rw [← hbs] at Hin
        clear hin hcell' hrs hbs hpre hown hF
        obtain ⟨x, hx⟩ : ∃ x, x = endX 0 (expand (s3.take k)) := ⟨_, rfl⟩
        obtain ⟨y, hy⟩ : ∃ x, x = endY 0 (expand (s3.take k)) := ⟨_, rfl⟩
        rw [← hx, ← hy] at Hin ⊢
        clear hx hy
        go_wp2_with fail
        rw [← Hbs.out]
        obtain ⟨wo, rfl⟩ : ∃ wo : World, wo = wr := ⟨_, rfl⟩
        go_loopw [6, 7, 8, 30] (TxIn w s3 (.slice a3 r c3) (expand (s3.take k)) kk c bs) (fun _ _ _ i _ => c - (intOf i).toNat)
        case atStart => exact Hin.out
        case round =>
          obtain ⟨q, hq, rfl, rfl, rfl, hown, hF, hbel, hcK, hbl, hn1⟩ := hrel
          have hs1 := hbel.size
          have hL : (expand (s3.take k) ++ List.replicate q kk).length ≤ n + m := by
            have := Hpre.out; simp; omega
          have he := end_le (expand (s3.take k) ++ List.replicate q kk) 0
          have HS := Lib.hid (fun (v' : Value) (w4 : World) hq h5 h6 h7 => TxIn.step (c := c) (w4 := w4) (v' := v') hq hown hF hbel hcK hbl hn1 h5 h6 h7)
          have Hown := Lib.hid hown; have HF2 := Lib.hid hF; have Hn1 := Lib.hid hn1
          by_cases hqc : q < c
          · have hkk : kk = 1 ∨ kk = 2 ∨ kk = 3 := by omega
            clear hown hF hn1 Hin hgk HF2
            generalize expand (s3.take k) ++ List.replicate q kk = ex at *
            generalize endX 0 ex = X at *
            generalize endY 0 ex = Y at *
            generalize hEL : ex.length = L at *
            clear hEL
            rcases hkk with hkk | hkk | hkk
            · have q1 : ((kk : Int) == 1) = true := by rw [hkk]; rfl
              have Hkk := Lib.hid hkk; clear hkk
              go_wp2_with (at_builtin; refine wpList_append_at T_steps rfl _ _ rfl #[_, _, _] rfl Hown.out rfl rfl (by simp [Value.oneCell']) (by omega) hs1 ?_)
              intro v4 w4 h5 h6 h7
              have Hrel : Hid (TxIn w s3 (.slice a3 r c3) (expand (s3.take k)) kk c bs v4 (.int .i64 ((X : Int) + 1)) (.int .i64 ((Y : Int) + 1)) (.int .i64 ((q : Int) + 1)) w4) := by
                have := HS.out v4 w4 hqc (by rw [Hkk.out]; exact h5) h6 h7
                rw [Hkk.out] at this ⊢
                exact this
              clear h5 h6 h7
              go_wp2_with fail
              go_roundw
              case rel => exact Hrel.out
              case measure => simp [intOf]; omega
            · have q1 : ((kk : Int) == 1) = false := by simp; omega
              have q2 : ((kk : Int) == 2) = true := by rw [hkk]; rfl
              have Hkk := Lib.hid hkk; clear hkk
              go_wp2_with (at_builtin; refine wpList_append_at T_steps rfl _ _ rfl #[_, _, _] rfl Hown.out rfl rfl (by simp [Value.oneCell']) (by omega) hs1 ?_)
              intro v4 w4 h5 h6 h7
              have Hrel : Hid (TxIn w s3 (.slice a3 r c3) (expand (s3.take k)) kk c bs v4 (.int .i64 ((X : Int) + 1)) (.int .i64 (Y : Int)) (.int .i64 ((q : Int) + 1)) w4) := by
                have := HS.out v4 w4 hqc (by rw [Hkk.out]; exact h5) h6 h7
                rw [Hkk.out] at this ⊢
                exact this
              clear h5 h6 h7
              go_wp2_with fail
              go_roundw
              case rel => exact Hrel.out
              case measure => simp [intOf]; omega
            · have q1 : ((kk : Int) == 1) = false := by simp; omega
              have q2 : ((kk : Int) == 2) = false := by simp; omega
              have q3 : ((kk : Int) == 3) = true := by rw [hkk]; rfl
              have Hkk := Lib.hid hkk; clear hkk
              go_wp2_with (at_builtin; refine wpList_append_at T_steps rfl _ _ rfl #[_, _, _] rfl Hown.out rfl rfl (by simp [Value.oneCell']) (by omega) hs1 ?_)
              intro v4 w4 h5 h6 h7
              have Hrel : Hid (TxIn w s3 (.slice a3 r c3) (expand (s3.take k)) kk c bs v4 (.int .i64 (X : Int)) (.int .i64 ((Y : Int) + 1)) (.int .i64 ((q : Int) + 1)) w4) := by
                have := HS.out v4 w4 hqc (by rw [Hkk.out]; exact h5) h6 h7
                rw [Hkk.out] at this ⊢
                exact this
              clear h5 h6 h7
              go_wp2_with fail
              go_roundw
              case rel => exact Hrel.out
              case measure => simp [intOf]; omega
          · obtain rfl : q = c := by omega
            have hpc : expand (s3.take k) ++ List.replicate q kk = expand (s3.take (k + 1)) := by
              rw [List.take_succ_eq_append_getElem hks, expand_append, Hrs.out]; simp [expand]
            have Hrel : Hid (TxOut w s3 (.slice a3 r c3) u6 (.int .i64 (endX 0 (expand (s3.take k) ++ List.replicate q kk) : Nat)) (.int .i64 (endY 0 (expand (s3.take k) ++ List.replicate q kk) : Nat)) (.int .i64 ((k : Int) + 1)) wr) := by
              rw [hpc] at hown ⊢
              exact ⟨k + 1, hks, by simp, rfl, rfl, hown, hF, hbel⟩
            clear hpc hown hF hn1 Hin hgk
            go_wp2_with fail
            go_roundw
            case rel => exact Hrel.out
            case measure => simp [intOf]; omega
      · obtain rfl : k = r := by omega
        rw [← Hr.out, List.take_length, Hex.out] at hown
        have Hown := Lib.hid hown
        clear hown hF hk
        go_wp2_with fail
        go_ret
        have hP := FlatV.of_owns (f := stepC) (E := []) Hown.out (placed_len _ _ _) (.inr (by simp))
        rw [fragE_nil, Hks.out] at hP
        exact ⟨_, rfl, hP, hbel⟩

end Go.Proofs.Ytlilamlolnkboaa
