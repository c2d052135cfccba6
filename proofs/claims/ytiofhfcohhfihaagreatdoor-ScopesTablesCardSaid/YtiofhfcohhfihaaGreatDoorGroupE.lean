/- Package scopes, walked: which type a name means. Package scopes, walked: which type a name means in a scope. -/
import Derived.Test.YtiofhfcohhfihaaGreatDoorScTab
import Derived.Test.YtiofhfcohhfihaaGreatDoorShelf2
import Derived.Lib.MinMax

namespace Go.Proofs.YtiofhfcohhfihaaGreatDoor
open Go.RowKit
set_option linter.unusedVariables false
set_option linter.unusedSimpArgs false

/-- a type, or none: its five cells -/
def tyO : Option Sc.Ty → List Value
  | none => zTy
  | some t => tyC t
theorem one_tyO (t : Option Sc.Ty) : ∀ u ∈ tyO t, u.oneCell' = true := by
  cases t with
  | none => intro u hu; simp only [tyO, zTy, List.mem_cons, List.not_mem_nil, or_false] at hu; rcases hu with rfl | rfl | rfl | rfl | rfl <;> rfl
  | some t => exact one_tyC t
theorem tyO_len (t : Option Sc.Ty) : (tyO t).length = 5 := by cases t <;> rfl
theorem zeroTy : (Tryz.prog.info? 59).map (·.zero) = some (some (.agg zTy.toArray)) := by kernel_rfl
theorem ty_build0 (w : World) : (Instr.build 59 #[]).run Tryz.prog w = .ok (.agg zTy.toArray) w := by kernel_rfl
theorem sizeTys (w : World) : (Go.sizeOf (Tryz.prog.elem 70)).run Tryz.prog w = .ok 5 w := by kernel_rfl
def FindPost (w : World) (r : Option Sc.Ty) (e : Ending) (w' : World) : Prop := e = .returned (.tuple #[.agg (tyO r).toArray, .bool r.isSome]) ∧ Below w.heap.size w w'
theorem names_at {l : List Sc.Ty} {F : Lx.Bs} (hU : Sc.Uniq l) (h : F ∈ Sc.fulls l) : ∃ hi : Num.ix (names l) (toB F) < l.length, Sc.find l F = some l[Num.ix (names l) (toB F)] := by
  have h1 : Num.ix (names l) (toB F) < (names l).length := by rw [Num.ix_mem, names_mem]; exact h
  have h2 : Num.ix (names l) (toB F) < l.length := by rw [names_len] at h1; exact h1
  have h3 := Num.ix_at h1
  refine ⟨h2, ?_⟩
  have h4 : l[Num.ix (names l) (toB F)].full = F := by
    apply toB_inj
    refine Eq.trans ?_ h3
    simp [names, Sc.fulls]
  have h5 := Sc.find_at hU h2
  rw [h4] at h5
  exact h5

set_option maxHeartbeats 4000000 in
set_option maxRecDepth 100000 in
theorem find_any (w0 : World) (g : Nat) (K : List (Nat × List Value)) (l : List Sc.Ty) (F : Lx.Bs) (w : World) (hT : Tab w0 g K l w) (hU : Sc.Uniq l) (hl : l.length ≤ 40) (hF : F.length ≤ 100000000) :
    Calls Tryz.prog 23 #[.pointer (some ⟨g, 0, none⟩), .string (toB F)] w (FindPost w (Sc.find l F)) := by
  have hFm : (toB F).size ≤ maxLen := by rw [toB_size]; unfold maxLen; omega
  obtain ⟨v, b, hT⟩ := hT
  obtain ⟨va, vc, rfl⟩ := own_sl hT.own
  have HT := Lib.hid hT
  have Hlook := Lib.hid (fun w1 (hb : Below w.heap.size w w1) => (hT.keep hb).map.look (toB F) hFm)
  have HFl := Lib.hid (fun w1 (hb : Below w.heap.size w w1) => by
    have h1 := FlatV.of_owns (f := tyC) (E := []) (n := l.length) (xs := l) (hT.keep hb).own rfl (.inr (by simp))
    rw [fragE_nil] at h1
    exact h1)
  clear hT
  by_cases hin : F ∈ Sc.fulls l
  · obtain ⟨hi, hfd⟩ := names_at hU hin
    obtain ⟨x, hx⟩ : ∃ x, x = l[Num.ix (names l) (toB F)] := ⟨_, rfl⟩
    rw [hfd, ← hx]
    have Hx := Lib.hid hx
    clear hx
    have hd := names_has l F
    rw [decide_eq_true hin] at hd
    have Hix : Hid (Num.ix (names l) (toB F) < (names l).length) := Lib.hid (of_decide_eq_true hd)
    obtain ⟨n, hn⟩ : ∃ n, n = l.length := ⟨_, rfl⟩
    have Hn := Lib.hid hn.symm
    clear hFm hF hin hU hfd
    go_enter Tryz.func23, Tryz.ntmps23
    go_upto_region 1 with (first
      | (refine wpList_alloc_lay rfl 59 rfl zTy zeroTy ?_; (intro w1 g1 hg1 hB1 hb1)))
    obtain ⟨c, hlook, hc⟩ := Hlook.out w1 hb1
    have hc := hc Hix.out
    subst hc
    rw [hd] at hlook
    have hBt := (HT.out.keep hb1).blk
    rw [Hn.out] at hBt
    have c0 : w1.cell? ⟨g, 0, none⟩ = some (.slice va n vc) := hBt.cell (o := 0) rfl
    have c1 : w1.cell? ⟨g, 1, none⟩ = some (.map (some b)) := hBt.cell (o := 1) rfl
    have hfl := HFl.out w1 hb1
    rw [Hn.out] at hfl
    obtain ⟨d0, o0, hd0, hidx, hcell⟩ := FlatV.at (n := n) (cap := vc) (a := va) hfl tyC_len (by decide) (i := Num.ix (names l) (toB F)) hi Tryz.underlying70 sizeTys
    have hr : w1.rangeAt d0 o0 (tyC l[Num.ix (names l) (toB F)]) := hcell
    have Hb1 := Lib.hid hb1; have Hg1 := Lib.hid hg1
    rw [← Hx.out] at hr
    clear hcell hfl hBt hb1 hg1 hd hn Hx Hix Hlook HFl
    generalize Num.ix (names l) (toB F) = i at *
    go_wp2_with (first
      | (refine wpList_load_seg rfl 59 _ rfl _ _ rfl _ _ hr Tryz.underlying59 rfl infoTy ?_)
      | (refine wpList_store_all rfl 59 _ _ rfl g1 (tyC x) rfl rfl zTy hB1 infoTy rfl (one_tyC x) ?_; (intro w8 hB8 hgr8)))
    have hb8 := Below.grown Hb1.out hgr8 Hb1.out.size (fun _ e => by cases e; exact Hg1.out)
    refine bodyPost_ret (v := .tuple #[.agg (tyC x).toArray, .bool true]) ?_ rfl ⟨rfl, hb8⟩
    exact results_blk2 (p := 4) (u := 5) (ty := 59) rfl _ _ g1 (tyC x) rfl hB8 _ Tryz.underlying59 rfl infoTy
  · rw [Sc.find_none hin]
    have hd := names_has l F
    rw [decide_eq_false hin] at hd
    have hbd := ty_build0
    obtain ⟨n, hn⟩ : ∃ n, n = l.length := ⟨_, rfl⟩
    have Hn := Lib.hid hn.symm
    clear hFm hF hin hU HFl
    go_enter Tryz.func23, Tryz.ntmps23
    go_upto_region 1 with (first
      | (refine wpList_alloc_lay rfl 59 rfl zTy zeroTy ?_; (intro w1 g1 hg1 hB1 hb1)))
    obtain ⟨c, hlook, hc⟩ := Hlook.out w1 hb1
    rw [hd] at hlook
    have c1 : w1.cell? ⟨g, 1, none⟩ = some (.map (some b)) := (HT.out.keep hb1).blk.cell (o := 1) rfl
    have Hb1 := Lib.hid hb1; have Hg1 := Lib.hid hg1
    clear hb1 hg1 hd hn hc
    go_wp2_with (first
      | (refine wpList_store_all rfl 59 _ _ rfl g1 zTy rfl rfl zTy hB1 infoTy rfl (one_tyO none) ?_; (intro w8 hB8 hgr8)))
    have hb8 := Below.grown Hb1.out hgr8 Hb1.out.size (fun _ e => by cases e; exact Hg1.out)
    refine bodyPost_ret (v := .tuple #[.agg zTy.toArray, .bool false]) ?_ rfl ⟨rfl, hb8⟩
    exact results_blk2 (p := 4) (u := 5) (ty := 59) rfl _ _ g1 zTy rfl hB8 _ Tryz.underlying59 rfl infoTy

theorem lastIdx_P (s : Lx.Bs) : ∀ k, k ≤ s.length → max (Lib.lastIdx (toB s) 46 k) 0 = (Sc.lastP s k : Int)
  | 0, _ => rfl
  | k + 1, hk => by
    rw [Lib.lastIdx, Sc.lastP]
    have e : (toB s).data[k]! = s[k] := by
      have h1 : (toB s).data = s.toArray := rfl
      rw [h1, getElem!_pos _ k (by simp; omega)]
      simp
    rw [e, List.getElem?_eq_getElem (by omega)]
    by_cases h : s[k] = 46
    · rw [if_pos (by rw [h]; rfl), if_pos (by rw [h])]; omega
    · have h2 : ¬ ((s[k].toNat : Nat) : Int) = 46 := fun e2 => h (UInt8.toNat_inj.1 (show s[k].toNat = 46 by omega))
      rw [if_neg h2, if_neg (fun e2 => h (Option.some.inj e2))]
      exact lastIdx_P s k (by omega)
theorem outer_cut (s : Lx.Bs) : (toB s).extract 0 (Sc.lastDot s) = toB (Sc.outer s) := by
  apply ByteArray.ext
  unfold Sc.outer
  rw [ByteArray.data_extract]
  show s.toArray.extract 0 _ = (s.take _).toArray
  rw [List.extract_toArray, List.extract_eq_take_drop]
  simp

set_option maxHeartbeats 1000000 in
set_option maxRecDepth 100000 in
theorem outer_any (s : Lx.Bs) (w : World) (hs : s.length ≤ 100000000) :
    Calls Tryz.prog 25 #[.string (toB s)] w fun e w' => e = .returned (.tuple #[.string (toB (Sc.outer s)), .bool (!decide (s = []))]) ∧ w' = w := by
  by_cases h : s = []
  · subst h
    have q2 : (toB []).toList.isEmpty = true := isEmpty_yes (by rw [toB_size]; rfl)
    go_enter Tryz.func25, Tryz.ntmps25
    go_wp2_with fail
    go_ret2
    exact ⟨rfl, rfl⟩
  · rw [decide_eq_false h]
    have q2 : (toB s).toList.isEmpty = false := isEmpty_no (by rw [toB_size]; exact fun e => h (List.eq_nil_of_length_eq_zero e))
    have HL := Lib.hid (Tryz.strings_LastIndex_one (toB s) ⟨#[46]⟩ rfl (by rw [toB_size]; omega) w)
    have hmx : max (Lib.lastIndexByte (toB s) ((((⟨#[46]⟩ : ByteArray)[0]'(by decide)).toNat : Nat) : Int)) 0 = (Sc.lastDot s : Int) := by
      have := lastIdx_P s s.length (Nat.le_refl _)
      unfold Lib.lastIndexByte Sc.lastDot
      rw [toB_size]; exact this
    have hlt := Sc.lastDot_lt h
    have hsz := toB_size s
    have Hcut := Lib.hid (outer_cut s)
    generalize Lib.lastIndexByte (toB s) ((((⟨#[46]⟩ : ByteArray)[0]'(by decide)).toNat : Nat) : Int) = z at *
    generalize Sc.lastDot s = k at *
    go_enter Tryz.func25, Tryz.ntmps25
    go_wp2_with (go_at_call 58; (with_reducible refine HL.out.mono ?_); rintro e w1 ⟨rfl, rfl⟩)
    go_ret2
    exact ⟨congrArg (fun b => Ending.returned (.tuple #[.string b, .bool true])) Hcut.out, rfl⟩

end Go.Proofs.YtiofhfcohhfihaaGreatDoor

namespace Go.Proofs.YtiofhfcohhfihaaGreatDoor
open Go.RowKit
set_option linter.unusedVariables false
set_option linter.unusedSimpArgs false

theorem cut_point (n : Lx.Bs) : Lib.hasPrefix (toB n).data.toList (⟨#[46]⟩ : ByteArray).data.toList = decide (n.head? = some 46) := by
  rw [toB_list]
  show List.isPrefixOf [46] n = _
  cases n with
  | nil => rfl
  | cons a r =>
    rw [List.head?_cons]
    unfold List.isPrefixOf
    by_cases h : a = 46
    · subst h; simp
    · rw [decide_eq_false (fun e => h (Option.some.inj e))]
      have : ((46 : UInt8) == a) = false := beq_eq_false_iff_ne.2 (fun e => h e.symm)
      rw [this]; rfl
theorem cut_rest {n : Lx.Bs} (h : n.head? = some 46) : (⟨(Lib.trimPrefix (toB n).data.toList (⟨#[46]⟩ : ByteArray).data.toList).toArray⟩ : ByteArray) = toB n.tail := by
  unfold Lib.trimPrefix
  rw [cut_point, decide_eq_true h, if_pos rfl, toB_list]
  show (⟨(n.drop 1).toArray⟩ : ByteArray) = toB n.tail
  rw [List.drop_one]; rfl

set_option maxHeartbeats 8000000 in
set_option maxRecDepth 100000 in
theorem look_any (w0 : World) (g : Nat) (K : List (Nat × List Value)) (l : List Sc.Ty) (s n : Lx.Bs) (w : World) (hT : Tab w0 g K l w) (hU : Sc.Uniq l) (hl : l.length ≤ 40) (hs : s.length ≤ 40000000) (hn : n.length ≤ 40000000) :
    Calls Tryz.prog 21 #[.pointer (some ⟨g, 0, none⟩), .string (toB s), .string (toB n)] w (FindPost w (Sc.Look l s n)) := by
  have HF := Lib.hid (fun F w1 (hb : Below w.heap.size w w1) (hF : F.length ≤ 100000000) => find_any w0 g K l F w1 (hT.keep hb) hU hl hF)
  have HC := Lib.hid (fun w1 => Tryz.strings_CutPrefix (toB n) ⟨#[46]⟩ w1)
  have HO := Lib.hid (fun s w1 (h : s.length ≤ 100000000) => outer_any s w1 h)
  have HW := Lib.hid (fun s w1 (h : s.length ≤ 40000000) => within_any s n w1 h hn)
  have hcp := cut_point n
  have Hn := Lib.hid hn
  clear hT hU hl
  unfold Sc.Look
  by_cases hp : n.head? = some 46
  · rw [if_pos hp]
    rw [decide_eq_true hp] at hcp
    have hcr := cut_rest hp
    rw [hcp] at HC
    rw [hcr] at HC
    have Hlen : Hid (n.tail.length ≤ 100000000) := Lib.hid (by rw [List.length_tail]; have := Hn.out; omega)
    clear hcp hcr HO HW hn hs hp
    go_enter Tryz.func21, Tryz.ntmps21
    go_upto_region 1 with (first
      | (refine wpList_alloc_lay rfl 59 rfl zTy zeroTy ?_; (intro w1 g1 hg1 hB1 hb1)))
    have HF1 := Lib.hid (HF.out n.tail w1 hb1 Hlen.out)
    have HBr := Lib.hid hB1; have Hb1 := Lib.hid hb1; have Hg1 := Lib.hid hg1
    clear hB1 hb1 hg1 HF
    go_upto_region 3 with (go_at_call 55; (with_reducible refine (HC.out _).mono ?_); rintro e w2 ⟨rfl, rfl⟩)
    generalize Sc.find l n.tail = r at *
    have Hone := Lib.hid (one_tyO r); have Hlen5 := Lib.hid (tyO_len r)
    unfold FindPost at HF1
    go_wp2_with (first
      | (go_at_call 23; (with_reducible refine HF1.out.mono ?_); rintro e w3 ⟨rfl, hb3⟩; have HB3 := HBr.out.below hb3 HBr.out.lt; have Hb3 := Lib.hid (Hb1.out.trans (hb3.mono Hb1.out.size)); clear hb3)
      | (refine wpList_store_all rfl 59 _ _ rfl g1 (tyO r) rfl rfl zTy HB3 ?_ ?_ ?_ ?_; (· rw [Hlen5.out]; exact infoTy); (· exact Hlen5.out); (· exact Hone.out); (intro w8 hB8 hgr8)))
    have hb8 := Below.grown Hb3.out hgr8 Hb3.out.size (fun _ e => by cases e; exact Hg1.out)
    refine bodyPost_ret (v := .tuple #[.agg (tyO r).toArray, .bool r.isSome]) ?_ rfl ⟨rfl, hb8⟩
    exact results_blk2 (p := 6) (u := 7) (ty := 59) rfl _ _ g1 (tyO r) rfl hB8 _ Tryz.underlying59 rfl (by rw [Hlen5.out]; exact infoTy)
  · rw [if_neg hp]
    rw [decide_eq_false hp] at hcp
    rw [hcp] at HC
    obtain ⟨R, hR⟩ : ∃ R, R = Sc.look l n (s.length + 1) s := ⟨_, rfl⟩
    rw [← hR]
    have HR : Hid (R = Sc.look l n (s.length + 1) s) := Lib.hid hR
    have Hs := Lib.hid hs
    have hbd := ty_build0
    clear hcp hn hp hR hs
    go_enter Tryz.func21, Tryz.ntmps21
    go_upto_region 1 with (first
      | (refine wpList_alloc_lay rfl 59 rfl zTy zeroTy ?_; (intro w1 g1 hg1 hB1 hb1)))
    have HBr := Lib.hid hB1; have Hb1 := Lib.hid hb1; have Hg1 := Lib.hid hg1
    clear hB1 hb1 hg1
    go_wp2_with (go_at_call 55; (with_reducible refine (HC.out _).mono ?_); rintro e w2 ⟨rfl, rfl⟩)
    go_loopg [1, 10] (s.length + 2) (fun fu sc mo wr => ∃ (s' : Lx.Bs) (m : Bool), sc = .string (toB s') ∧ mo = .bool m ∧ s'.length ≤ 40000000 ∧ Hid (Below w.heap.size w wr ∧ Blk wr g1 zTy) ∧ Hid (m = true → s'.length + 2 ≤ fu ∧ R = Sc.look l n (s'.length + 1) s') ∧ Hid (m = false → R = none) ∧ 1 ≤ fu)
    case atStart => exact ⟨s, true, rfl, rfl, Hs.out, Lib.hid ⟨Hb1.out, HBr.out⟩, Lib.hid (fun _ => ⟨Nat.le_refl _, HR.out⟩), Lib.hid (fun e => by cases e), by omega⟩
    case round =>
      obtain ⟨s', m, rfl, rfl, hs', HX, Hyes, Hno, hfu⟩ := hrel
      cases m with
      | false =>
        have hRn := Hno.out rfl
        have HB3 := HX.out.2
        clear Hyes Hno
        go_wp2_with (first
          | (refine wpList_store_all rfl 59 _ _ rfl g1 zTy rfl rfl zTy HB3 infoTy rfl (one_tyO none) ?_; (intro w8 hB8 hgr8)))
        have hb8 := Below.grown HX.out.1 hgr8 HX.out.1.size (fun _ e => by cases e; exact Hg1.out)
        rw [hRn]
        refine bodyPost_ret (v := .tuple #[.agg zTy.toArray, .bool false]) ?_ rfl ⟨rfl, hb8⟩
        exact results_blk2 (p := 6) (u := 7) (ty := 59) rfl _ _ g1 zTy rfl hB8 _ Tryz.underlying59 rfl infoTy
      | true =>
        obtain ⟨hfu2, hRy⟩ := Hyes.out rfl
        have HRy := Lib.hid hRy
        have HWs := Lib.hid (HW.out s' wr hs')
        have hwl := within_len s' n
        have HFs := Lib.hid (HF.out (Sc.within s' n) wr HX.out.1 (by have := Hn.out; omega))
        have HOs := Lib.hid (fun w1 => HO.out s' w1 (by omega))
        have hol : (Sc.outer s').length ≤ s'.length := by unfold Sc.outer; rw [List.length_take]; omega
        clear hRy hwl Hyes Hno HR
        have HRy2 : Hid (R = match Sc.find l (Sc.within s' n) with | some t => some t | none => if s' = [] then none else Sc.look l n s'.length (Sc.outer s')) := Lib.hid (by rw [HRy.out, Sc.look]; cases Sc.find l (Sc.within s' n) <;> rfl)
        clear HRy
        generalize Sc.within s' n = F at *
        generalize Sc.find l F = r at *
        have Hone := Lib.hid (one_tyO r); have Hlen5 := Lib.hid (tyO_len r)
        unfold FindPost at HFs
        obtain ⟨k, rfl⟩ : ∃ k, gk = k + 1 := ⟨gk - 1, by omega⟩
        cases r with
        | some t =>
          have HRe : Hid (R = some t) := HRy2
          clear HRy2 HOs
          go_wp2_with (first
            | (go_at_call 56; (with_reducible refine HWs.out.mono ?_); rintro e w3 ⟨rfl, rfl⟩)
            | (go_at_call 23; (with_reducible refine HFs.out.mono ?_); rintro e w4 ⟨rfl, hb4⟩; have HB4 := Lib.hid (HX.out.2.below hb4 HX.out.2.lt); have Hb4 := Lib.hid (HX.out.1.trans (hb4.mono HX.out.1.size)); clear hb4)
            | (refine wpList_alloc_lay rfl 59 rfl zTy zeroTy ?_; (intro w5 g5 hg5 hB5 hb5; have HB45 := HB4.out.below hb5 HB4.out.lt; have hne5 : g5 ≠ g1 := fun e => by have := HB4.out.lt; omega))
            | (refine wpList_store_all rfl 59 _ _ rfl g5 (tyC t) rfl rfl zTy hB5 infoTy rfl (one_tyC t) ?_; (intro w6 hB6 hgr6; have HB46 := HB45.grown hgr6 (fun e => hne5 (Option.some.inj e).symm); have hW6 := hB6.whole; have hb6 := Below.grown hb5 hgr6 hb5.size (fun _ e => by cases e; exact hg5); clear hB5 hb5 hgr6 HB45))
            | (refine wpList_load_seg rfl 59 _ rfl _ _ rfl _ _ hW6 Tryz.underlying59 rfl infoTy ?_)
            | (refine wpList_store_all rfl 59 _ _ rfl g1 (tyC t) rfl rfl zTy HB46 infoTy rfl (one_tyC t) ?_; (intro w8 hB8 hgr8)))
          have hb8 := Below.grown (Hb4.out.trans (hb6.mono Hb4.out.size)) hgr8 (Nat.le_trans Hb4.out.size hb6.size) (fun _ e => by cases e; exact Hg1.out)
          rw [HRe.out]
          refine bodyPost_ret (v := .tuple #[.agg (tyC t).toArray, .bool true]) ?_ rfl ⟨rfl, hb8⟩
          exact results_blk2 (p := 6) (u := 7) (ty := 59) rfl _ _ g1 (tyC t) rfl hB8 _ Tryz.underlying59 rfl infoTy
        | none =>
          have HRe : Hid (R = if s' = [] then none else Sc.look l n s'.length (Sc.outer s')) := HRy2
          clear HRy2
          go_wp2_with (first
            | (go_at_call 56; (with_reducible refine HWs.out.mono ?_); rintro e w3 ⟨rfl, rfl⟩)
            | (go_at_call 23; (with_reducible refine HFs.out.mono ?_); rintro e w4 ⟨rfl, hb4⟩; have HB4 := Lib.hid (HX.out.2.below hb4 HX.out.2.lt); have Hb4 := Lib.hid (HX.out.1.trans (hb4.mono HX.out.1.size)); clear hb4)
            | (refine wpList_alloc_lay rfl 59 rfl zTy zeroTy ?_; (intro w5 g5 hg5 hB5 hb5; have HB45 := HB4.out.below hb5 HB4.out.lt; have hne5 : g5 ≠ g1 := fun e => by have := HB4.out.lt; omega))
            | (refine wpList_store_all rfl 59 _ _ rfl g5 zTy rfl rfl zTy hB5 infoTy rfl (one_tyO none) ?_; (intro w6 hB6 hgr6; have HB46 := HB45.grown hgr6 (fun e => hne5 (Option.some.inj e).symm); have hb6 := Below.grown hb5 hgr6 hb5.size (fun _ e => by cases e; exact hg5); clear hB5 hb5 hgr6 HB45 hB6))
            | (go_at_call 25; (with_reducible refine (HOs.out _).mono ?_); rintro e w7 ⟨rfl, rfl⟩))
          have HX6 : Hid (Below w.heap.size w w7 ∧ Blk w7 g1 zTy) := Lib.hid ⟨Hb4.out.trans (hb6.mono Hb4.out.size), HB46⟩
          go_roundg k
          case measure => omega
          case rel =>
            refine ⟨Sc.outer s', !decide (s' = []), rfl, rfl, by omega, HX6, Lib.hid (fun e => ?_), Lib.hid (fun e => ?_), by omega⟩
            · have hne : s' ≠ [] := fun h => by rw [decide_eq_true h] at e; cases e
              have h1 := Sc.outer_lt hne
              refine ⟨by omega, ?_⟩
              rw [HRe.out, if_neg hne]
              exact Sc.look_more l n _ _ _ h1 (by omega)
            · have h : s' = [] := by
                by_cases h : s' = []
                · exact h
                · rw [decide_eq_false h] at e; cases e
              rw [HRe.out, if_pos h]

end Go.Proofs.YtiofhfcohhfihaaGreatDoor
