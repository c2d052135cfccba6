/- Package lexer, walked: the number of a text. -/
import Derived.Test.YtpcfdngnmigkfaaGreatDoorGroupK
set_option linter.unusedVariables false
set_option linter.unusedSimpArgs false
namespace Go.Proofs.YtpcfdngnmigkfaaGreatDoor
open Go.RowKit
theorem any_bad : ∀ (l : Lx.Bs), decide (0 ≤ Lib.indexAny l [92, 10]) = l.any (fun c => c == 92 || c == 10)
 | [] => rfl
 | b :: r => by
  have ih := any_bad r
  have hge := Lib.indexAny_ge [92, 10] r
  rw [Lib.indexAny, List.any_cons, ← ih]
  have e : ([92, 10] : Lx.Bs).contains b = (b == 92 || b == 10) := by
   simp only [List.contains_cons, List.contains_nil, Bool.or_false]
  rw [e]
  cases (b == 92 || b == 10)
  ·simp only [Bool.false_eq_true, if_false, Bool.false_or]
   split
   ·rename_i h
    have h := beq_iff_eq.1 h
    simp [h]
   ·rename_i h
    have h : ¬ Lib.indexAny r [92, 10] = -1 := fun e => h (beq_iff_eq.2 e)
    exact decide_eq_decide.2 (by omega)
  ·rfl
theorem idxany_any (s : ByteArray) (w : World) (hs : s.size < 4294967281) :
  Calls Tryz.prog 97 #[.string s, .string badL] w fun e w' => e = .returned (.int .i64 (Lib.indexAny s.data.toList [92, 10])) ∧ Below w.heap.size w w' := by
 by_cases h8 : s.size ≤ 8
 ·exact idxany_short s w h8
 ·have h116 : (Tryz.prog.info? 195).map (fun i => (i.zero, i.size)) = some (some (.agg (Array.replicate 256 (.bool false))), 256) := by kernel_rfl
  refine (Tryz.strings_IndexAny_long (zero_of_info h116).1 s badL w (by show 2 ≤ 2; omega) (by omega) hs (by show 2 < 4294967281; omega) ?_).mono fun e w' ⟨h1, h2⟩ => ⟨h1, ?_⟩
  ·intro j b hj
   have : b ∈ ([92, 10] : Lx.Bs) := List.mem_of_getElem? hj
   simp only [List.mem_cons, List.not_mem_nil, or_false] at this
   rcases this with rfl | rfl <;> decide
  ·rw [h2]
   exact ((Below.refl _ _).alloc (Nat.le_refl _) _).alloc (by simp) _
set_option maxHeartbeats 400000 in
theorem containsany_any (s : ByteArray) (w : World) (hs : s.size < 4294967281) :
  Calls Tryz.prog 75 #[.string s, .string ⟨#[92, 10]⟩] w fun e w' => e = .returned (.bool (s.data.toList.any (fun c => c == 92 || c == 10))) ∧ Below w.heap.size w w' := by
 have HI := Yq (idxany_any s w hs)
 rw [← any_bad]
 unfold badL at HI
 generalize Lib.indexAny s.data.toList [92, 10] = x at *
 go_enter Tryz.func75, Tryz.ntmps75
 go_wp2_with fail
 refine HI.out.mono ?_
 rintro e w' ⟨rfl, hb⟩
 go_wp2_with fail
 go_ret
 exact ⟨rfl, hb⟩
set_option maxHeartbeats 400000 in
theorem pu_ok (b : Int) (t : ByteArray) (V : Nat) (w : World) (hV : ¬ 2147483647 < V) (H : Calls Tryz.prog 104 #[.string t, .int .i64 b, .int .i64 31] w fun e w' => e = .returned (parseV V) ∧ Below w.heap.size w w') :
  Calls Tryz.prog 96 #[.string t, .int .i64 b, .int .i64 31] w fun e w' => e = .returned (.tuple #[.int .u64 V, .nilIface]) ∧ Below w.heap.size w w' := by
 unfold parseV at H
 rw [if_neg hV] at H
 have HH := Yq H
 clear H hV
 go_enter Tryz.func96, Tryz.ntmps96
 go_wp2_with fail
 refine HH.out.mono ?_
 rintro e w' ⟨rfl, hb⟩
 go_wp2_with fail
 go_ret2
 exact ⟨rfl, hb⟩
def BigPost (w : World) (e : Ending) (w' : World) : Prop := ∃ N : Nat, e = .returned (.tuple #[.int .u64 2147483647, .iface 205 (.pointer (some ⟨N, 0, none⟩))]) ∧ Below w.heap.size w w'
set_option maxHeartbeats 400000 in
theorem pu_big (A : Nat → Addr) (b : Int) (t : ByteArray) (V : Nat) (w : World) (hv : Vars A w) (ht : t.size ≤ 100000) (hV : 2147483647 < V) (H : Calls Tryz.prog 104 #[.string t, .int .i64 b, .int .i64 31] w fun e w' => e = .returned (parseV V) ∧ Below w.heap.size w w') :
  Calls Tryz.prog 96 #[.string t, .int .i64 b, .int .i64 31] w (BigPost w) := by
 unfold parseV at H
 rw [if_pos hV] at H
 have HH := Yq H
 have Hv := Yq hv
 clear H hV hv
 go_enter Tryz.func96, Tryz.ntmps96
 go_wp2_with fail
 refine HH.out.mono ?_
 rintro e w' ⟨rfl, hb⟩
 obtain ⟨te, pe, hc⟩ := (Hv.out.below hb).conv
 have HT := Yq (Tryz.strconv_toError_range ⟨#[80, 97, 114, 115, 101, 85, 105, 110, 116]⟩ t b 31 _ w' (by omega) hc (.inr ⟨te, pe, rfl⟩))
 clear hc
 go_wp2_with fail
 refine HT.out.mono ?_
 rintro e w2 ⟨N, rfl, h1, h2, h3⟩
 clear h2
 go_wp2_with fail
 go_ret2
 exact ⟨N, rfl, hb.trans (h3.mono hb.size)⟩
def numV (A : Nat → Addr) : Lx.Res Nat → Value
 | .bad n => .tuple #[.int .i64 0, errV (A (n - 1))]
 | .ok x => .tuple #[.int .i64 x, .nilIface]
def NumRet (A : Nat → Addr) (r : Lx.Res Nat) (w : World) (e : Ending) (w' : World) : Prop := e = .returned (numV A r) ∧ Below w.heap.size w w'
def numOf (base : Nat) (l : Lx.Bs) : Lx.Res Nat :=
 if l = [] ∨ Lx.run (inBase base) l < l.length then .bad 9 else if 2147483647 < Lx.valueOf base l then .bad 1 else .ok (Lx.valueOf base l)
theorem number_of (l : Lx.Bs) : Lx.number l = numOf (Lx.baseOf l).1 (Lx.baseOf l).2 := rfl
theorem run_all {p : UInt8 → Bool} : ∀ {l : Lx.Bs}, ¬ Lx.run p l < l.length → ∀ b ∈ l, p b = true
 | [], _, b, hb => by cases hb
 | c :: r, h, b, hb => by
  rw [Lx.run_cons] at h
  by_cases hc : p c = true
  ·rw [if_pos hc] at h
   rcases List.mem_cons.1 hb with rfl | hb
   ·exact hc
   ·exact run_all (l := r) (by simp at h; omega) b hb
  ·rw [if_neg hc] at h; simp at h
theorem digf_enters : ∀ args w, (callFunc 94 args).run Tryz.prog w = .ok (.enter 94 args) w := enters_of Tryz.func94 (by kernel_rfl) rfl
theorem digf_gives (base g : Nat) (w : World) (hc : w.cell? ⟨g, 0, none⟩ = some (.int .i64 base)) : GivesB 94 #[.pointer (some ⟨g, 0, none⟩)] (inBase base) w := fun W b hb =>
 digf_any base g b W ((hb.cell (p := ⟨g, 0, none⟩) (World.block_lt_of_cell? w _ hc)).trans hc)
set_option maxHeartbeats 4000000 in
set_option maxRecDepth 100000 in
theorem number_x (A : Nat → Addr) (s : ByteArray) (w : World) (hv : Vars A w) (hs : s.size ≤ 50000) (h1 : s.data.toList.take 2 = [48, 120]) :
  Calls Tryz.prog 74 #[.string s] w (NumRet A (numOf 16 (s.data.toList.drop 2)) w) := by
 have hmf : ∀ (fn : Fn) (first cap : Array Value) (w : World), (Instr.makeFunc fn first cap).run Tryz.prog w = .ok (.func fn first cap) w := fun _ _ _ _ => rfl
 have H1 := Yq (fun (w0 : World) => hasprefix_any s 48 120 w0)
 rw [decide_eq_true h1] at H1
 have H2 := H1
 have hs2 := take2_size h1
 clear h1
 have HE := Yq (extract_rest s 2)
 obtain ⟨D, hD⟩ : ∃ D, D = rest s 2 := ⟨_, rfl⟩
 have HD := Yq hD
 have hdl : s.data.toList.drop 2 = D.data.toList := by rw [hD]; rfl
 have hds : D.size ≤ 50000 := by rw [hD, rest_size]; omega
 rw [hdl]
 have Hv := Yq hv
 clear hv hD hdl
 go_enter Tryz.func74, Tryz.ntmps74
 go_upto_region 6 with (first
  | (go_at_call 70; (with_reducible refine (H1.out _).mono ?_); rintro e w' ⟨rfl, rfl⟩)
  | (go_at_call 70; (with_reducible refine (H2.out _).mono ?_); rintro e w' ⟨rfl, rfl⟩)
  | go_region)
 rw [HE.out, ← HD.out]
 generalize hW : (w.alloc (.cells #[.int .i64 16] 3)).drew = W1
 have hc : W1.cell? ⟨w.heap.size, 0, none⟩ = some (.int .i64 16) := by rw [← hW]; first | (rw [World.cell?_drew, World.cell?_alloc_at _ _ _ _ rfl]; rfl) | (rw [World.cell?_alloc_at _ _ _ _ rfl]; rfl)
 have hb1 : Below w.heap.size w W1 := by rw [← hW]; first | exact ((Below.refl _ _).alloc (Nat.le_refl _) _).drew | exact (Below.refl _ _).alloc (Nat.le_refl _) _
 clear hW
 have hv1 := Hv.out.below hb1
 have hform := hv1.form
 have hrange := hv1.range
 unfold errV at hform hrange
 have Hv1 := Yq hv1
 have Hb1 := Yq hb1
 have HR := Yq (run_any D _ #[.pointer (some ⟨w.heap.size, 0, none⟩)] (inBase 16) W1 (by unfold maxLen; omega) (digf_gives 16 _ W1 hc) digf_enters)
 have Hc := Yq hc
 clear hb1 hv1
 by_cases h0 : D.size = 0
 ·have hnil : D.data.toList = [] := List.eq_nil_of_length_eq_zero (by rw [len_data]; exact h0)
  have hemp : D.toList.isEmpty = true := isEmpty_yes h0
  have Hend := Yq (show numOf 16 D.data.toList = .bad 9 by unfold numOf; rw [if_pos (.inl hnil)])
  clear hnil hc hrange
  go_wp2_with fail
  go_quiet (fail)
  go_wp2
  go_ret2
  exact ⟨by rw [Hend.out]; rfl, Below.drewN Hb1.out _⟩
 ·have hnil : D.data.toList ≠ [] := fun e => h0 (by rw [← len_data, e]; rfl)
  have hemp : D.toList.isEmpty = false := isEmpty_no h0
  obtain ⟨n, hn⟩ : ∃ n, n = Lx.run (inBase 16) D.data.toList := ⟨_, rfl⟩
  have hall := run_all (p := inBase 16) (l := D.data.toList)
  rw [← hn] at HR hall
  rw [len_data] at hall
  have Hn := Yq hn
  clear hn
  by_cases hlt : n < D.size
  ·have Hend := Yq (show numOf 16 D.data.toList = .bad 9 by unfold numOf; rw [if_pos (.inr (by rw [← Hn.out, len_data]; exact hlt))])
   clear hall hnil hc hrange
   go_wp2_with fail
   refine HR.out.mono ?_
   rintro e w2 ⟨rfl, hb2⟩
   have hform2 := (Hv1.out.below hb2).form
   unfold errV at hform2
   have Hb2 := Yq (Hb1.out.trans (hb2.mono Hb1.out.size))
   clear hform hb2
   go_wp2_with fail
   go_quiet (fail)
   go_wp2
   go_ret2
   exact ⟨by rw [Hend.out]; rfl, Below.drewN Hb2.out _⟩
  ·have hdig : ∀ b ∈ D.data.toList, Lx.digit b < 16 := fun b hb => by have := hall hlt b hb; unfold inBase at this; exact of_decide_eq_true this
   have Hif := Yq (show numOf 16 D.data.toList = if 2147483647 < Lx.valueOf 16 D.data.toList then .bad 1 else .ok (Lx.valueOf 16 D.data.toList) by
    unfold numOf; rw [if_neg (by rintro (h | h); exact hnil h; rw [← Hn.out, len_data] at h; exact hlt h)])
   have HP := Yq (fun w0 => parse_16 D h0 (by omega) w0 hdig)
   obtain ⟨V, hV⟩ : ∃ V, V = Lx.valueOf 16 D.data.toList := ⟨_, rfl⟩
   rw [← hV] at HP Hif
   clear hV hall hdig hnil hform hrange hc
   go_wp2_with fail
   refine HR.out.mono ?_
   rintro e w2 ⟨rfl, hb2⟩
   have hv2 := Hv1.out.below hb2
   have hc2 := (hb2.cell (p := ⟨w.heap.size, 0, none⟩) (World.block_lt_of_cell? W1 _ Hc.out)).trans Hc.out
   have Hb2 := Yq (Hb1.out.trans (hb2.mono Hb1.out.size))
   clear hb2
   by_cases hbig : 2147483647 < V
   ·have HU := Yq (pu_big A 16 D V w2 hv2 (by omega) hbig (HP.out w2))
    have Hv2 := Yq hv2
    have Hend := Yq (show numOf 16 D.data.toList = .bad 1 by rw [Hif.out, if_pos hbig])
    clear hv2 hbig
    go_wp2_with fail
    refine HU.out.mono ?_
    rintro e w3 ⟨N, rfl, hb3⟩
    have hrange := (Hv2.out.below hb3).range
    unfold errV at hrange
    have Hb3 := Yq (Hb2.out.trans (hb3.mono Hb2.out.size))
    clear hb3 hc2
    go_wp2_with fail
    go_quiet (fail)
    go_wp2
    go_ret2
    exact ⟨by rw [Hend.out]; rfl, Below.drewN Hb3.out _⟩
   ·have HU := Yq (pu_ok 16 D V w2 hbig (HP.out w2))
    have Hend := Yq (show numOf 16 D.data.toList = .ok V by rw [Hif.out, if_neg hbig])
    have hVz : (V : Int) ≤ 2147483647 := by omega
    clear hv2 hbig
    go_wp2_with fail
    refine HU.out.mono ?_
    rintro e w3 ⟨rfl, hb3⟩
    have Hb3 := Yq (Hb2.out.trans (hb3.mono Hb2.out.size))
    clear hb3 hc2
    go_wp2_with fail
    go_ret2
    exact ⟨by rw [Hend.out]; rfl, Hb3.out⟩
set_option maxHeartbeats 4000000 in
set_option maxRecDepth 100000 in
theorem number_X (A : Nat → Addr) (s : ByteArray) (w : World) (hv : Vars A w) (hs : s.size ≤ 50000) (h1 : s.data.toList.take 2 = [48, 88]) :
  Calls Tryz.prog 74 #[.string s] w (NumRet A (numOf 16 (s.data.toList.drop 2)) w) := by
 have hmf : ∀ (fn : Fn) (first cap : Array Value) (w : World), (Instr.makeFunc fn first cap).run Tryz.prog w = .ok (.func fn first cap) w := fun _ _ _ _ => rfl
 have H1 := Yq (fun (w0 : World) => hasprefix_any s 48 120 w0)
 rw [decide_eq_false (by rw [h1]; decide)] at H1
 have H2 := Yq (fun (w0 : World) => hasprefix_any s 48 88 w0)
 rw [decide_eq_true h1] at H2
 have hs2 := take2_size h1
 clear h1
 have HE := Yq (extract_rest s 2)
 obtain ⟨D, hD⟩ : ∃ D, D = rest s 2 := ⟨_, rfl⟩
 have HD := Yq hD
 have hdl : s.data.toList.drop 2 = D.data.toList := by rw [hD]; rfl
 have hds : D.size ≤ 50000 := by rw [hD, rest_size]; omega
 rw [hdl]
 have Hv := Yq hv
 clear hv hD hdl
 go_enter Tryz.func74, Tryz.ntmps74
 go_upto_region 6 with (first
  | (go_at_call 70; (with_reducible refine (H1.out _).mono ?_); rintro e w' ⟨rfl, rfl⟩)
  | (go_at_call 70; (with_reducible refine (H2.out _).mono ?_); rintro e w' ⟨rfl, rfl⟩)
  | go_region)
 rw [HE.out, ← HD.out]
 generalize hW : (w.alloc (.cells #[.int .i64 16] 3)).drew = W1
 have hc : W1.cell? ⟨w.heap.size, 0, none⟩ = some (.int .i64 16) := by rw [← hW]; first | (rw [World.cell?_drew, World.cell?_alloc_at _ _ _ _ rfl]; rfl) | (rw [World.cell?_alloc_at _ _ _ _ rfl]; rfl)
 have hb1 : Below w.heap.size w W1 := by rw [← hW]; first | exact ((Below.refl _ _).alloc (Nat.le_refl _) _).drew | exact (Below.refl _ _).alloc (Nat.le_refl _) _
 clear hW
 have hv1 := Hv.out.below hb1
 have hform := hv1.form
 have hrange := hv1.range
 unfold errV at hform hrange
 have Hv1 := Yq hv1
 have Hb1 := Yq hb1
 have HR := Yq (run_any D _ #[.pointer (some ⟨w.heap.size, 0, none⟩)] (inBase 16) W1 (by unfold maxLen; omega) (digf_gives 16 _ W1 hc) digf_enters)
 have Hc := Yq hc
 clear hb1 hv1
 by_cases h0 : D.size = 0
 ·have hnil : D.data.toList = [] := List.eq_nil_of_length_eq_zero (by rw [len_data]; exact h0)
  have hemp : D.toList.isEmpty = true := isEmpty_yes h0
  have Hend := Yq (show numOf 16 D.data.toList = .bad 9 by unfold numOf; rw [if_pos (.inl hnil)])
  clear hnil hc hrange
  go_wp2_with fail
  go_quiet (fail)
  go_wp2
  go_ret2
  exact ⟨by rw [Hend.out]; rfl, Below.drewN Hb1.out _⟩
 ·have hnil : D.data.toList ≠ [] := fun e => h0 (by rw [← len_data, e]; rfl)
  have hemp : D.toList.isEmpty = false := isEmpty_no h0
  obtain ⟨n, hn⟩ : ∃ n, n = Lx.run (inBase 16) D.data.toList := ⟨_, rfl⟩
  have hall := run_all (p := inBase 16) (l := D.data.toList)
  rw [← hn] at HR hall
  rw [len_data] at hall
  have Hn := Yq hn
  clear hn
  by_cases hlt : n < D.size
  ·have Hend := Yq (show numOf 16 D.data.toList = .bad 9 by unfold numOf; rw [if_pos (.inr (by rw [← Hn.out, len_data]; exact hlt))])
   clear hall hnil hc hrange
   go_wp2_with fail
   refine HR.out.mono ?_
   rintro e w2 ⟨rfl, hb2⟩
   have hform2 := (Hv1.out.below hb2).form
   unfold errV at hform2
   have Hb2 := Yq (Hb1.out.trans (hb2.mono Hb1.out.size))
   clear hform hb2
   go_wp2_with fail
   go_quiet (fail)
   go_wp2
   go_ret2
   exact ⟨by rw [Hend.out]; rfl, Below.drewN Hb2.out _⟩
  ·have hdig : ∀ b ∈ D.data.toList, Lx.digit b < 16 := fun b hb => by have := hall hlt b hb; unfold inBase at this; exact of_decide_eq_true this
   have Hif := Yq (show numOf 16 D.data.toList = if 2147483647 < Lx.valueOf 16 D.data.toList then .bad 1 else .ok (Lx.valueOf 16 D.data.toList) by
    unfold numOf; rw [if_neg (by rintro (h | h); exact hnil h; rw [← Hn.out, len_data] at h; exact hlt h)])
   have HP := Yq (fun w0 => parse_16 D h0 (by omega) w0 hdig)
   obtain ⟨V, hV⟩ : ∃ V, V = Lx.valueOf 16 D.data.toList := ⟨_, rfl⟩
   rw [← hV] at HP Hif
   clear hV hall hdig hnil hform hrange hc
   go_wp2_with fail
   refine HR.out.mono ?_
   rintro e w2 ⟨rfl, hb2⟩
   have hv2 := Hv1.out.below hb2
   have hc2 := (hb2.cell (p := ⟨w.heap.size, 0, none⟩) (World.block_lt_of_cell? W1 _ Hc.out)).trans Hc.out
   have Hb2 := Yq (Hb1.out.trans (hb2.mono Hb1.out.size))
   clear hb2
   by_cases hbig : 2147483647 < V
   ·have HU := Yq (pu_big A 16 D V w2 hv2 (by omega) hbig (HP.out w2))
    have Hv2 := Yq hv2
    have Hend := Yq (show numOf 16 D.data.toList = .bad 1 by rw [Hif.out, if_pos hbig])
    clear hv2 hbig
    go_wp2_with fail
    refine HU.out.mono ?_
    rintro e w3 ⟨N, rfl, hb3⟩
    have hrange := (Hv2.out.below hb3).range
    unfold errV at hrange
    have Hb3 := Yq (Hb2.out.trans (hb3.mono Hb2.out.size))
    clear hb3 hc2
    go_wp2_with fail
    go_quiet (fail)
    go_wp2
    go_ret2
    exact ⟨by rw [Hend.out]; rfl, Below.drewN Hb3.out _⟩
   ·have HU := Yq (pu_ok 16 D V w2 hbig (HP.out w2))
    have Hend := Yq (show numOf 16 D.data.toList = .ok V by rw [Hif.out, if_neg hbig])
    have hVz : (V : Int) ≤ 2147483647 := by omega
    clear hv2 hbig
    go_wp2_with fail
    refine HU.out.mono ?_
    rintro e w3 ⟨rfl, hb3⟩
    have Hb3 := Yq (Hb2.out.trans (hb3.mono Hb2.out.size))
    clear hb3 hc2
    go_wp2_with fail
    go_ret2
    exact ⟨by rw [Hend.out]; rfl, Hb3.out⟩
set_option maxHeartbeats 4000000 in
set_option maxRecDepth 100000 in
theorem number_o (A : Nat → Addr) (s : ByteArray) (w : World) (hv : Vars A w) (hs : s.size ≤ 50000) (hx : ¬ s.data.toList.take 2 = [48, 120]) (hX : ¬ s.data.toList.take 2 = [48, 88]) (h1 : 1 < s.size) (h0 : s[0] = 48) :
  Calls Tryz.prog 74 #[.string s] w (NumRet A (numOf 8 (s.data.toList.drop 1)) w) := by
 have hmf : ∀ (fn : Fn) (first cap : Array Value) (w : World), (Instr.makeFunc fn first cap).run Tryz.prog w = .ok (.func fn first cap) w := fun _ _ _ _ => rfl
 have H1 := Yq (fun (w0 : World) => hasprefix_any s 48 120 w0)
 rw [decide_eq_false hx] at H1
 have H2 := Yq (fun (w0 : World) => hasprefix_any s 48 88 w0)
 rw [decide_eq_false hX] at H2
 clear hx hX
 have h1z : decide ((1 : Int) < (s.size : Int)) = true := decide_eq_true (by omega)
 have h48 : (((s[0]'(by omega)).toNat : Int) == 48) = true := by rw [h0]; rfl
 clear h0
 have HE := Yq (extract_rest s 1)
 obtain ⟨D, hD⟩ : ∃ D, D = rest s 1 := ⟨_, rfl⟩
 have HD := Yq hD
 have hdl : s.data.toList.drop 1 = D.data.toList := by rw [hD]; rfl
 have hds : D.size ≤ 50000 := by rw [hD, rest_size]; omega
 rw [hdl]
 have Hv := Yq hv
 clear hv hD hdl
 go_enter Tryz.func74, Tryz.ntmps74
 go_upto_region 6 with (first
  | (go_at_call 70; (with_reducible refine (H1.out _).mono ?_); rintro e w' ⟨rfl, rfl⟩)
  | (go_at_call 70; (with_reducible refine (H2.out _).mono ?_); rintro e w' ⟨rfl, rfl⟩)
  | go_region)
 rw [HE.out, ← HD.out]
 generalize hW : (w.alloc (.cells #[.int .i64 8] 3)).drew = W1
 have hc : W1.cell? ⟨w.heap.size, 0, none⟩ = some (.int .i64 8) := by rw [← hW]; first | (rw [World.cell?_drew, World.cell?_alloc_at _ _ _ _ rfl]; rfl) | (rw [World.cell?_alloc_at _ _ _ _ rfl]; rfl)
 have hb1 : Below w.heap.size w W1 := by rw [← hW]; first | exact ((Below.refl _ _).alloc (Nat.le_refl _) _).drew | exact (Below.refl _ _).alloc (Nat.le_refl _) _
 clear hW
 have hv1 := Hv.out.below hb1
 have hform := hv1.form
 have hrange := hv1.range
 unfold errV at hform hrange
 have Hv1 := Yq hv1
 have Hb1 := Yq hb1
 have HR := Yq (run_any D _ #[.pointer (some ⟨w.heap.size, 0, none⟩)] (inBase 8) W1 (by unfold maxLen; omega) (digf_gives 8 _ W1 hc) digf_enters)
 have Hc := Yq hc
 clear hb1 hv1
 by_cases h0 : D.size = 0
 ·have hnil : D.data.toList = [] := List.eq_nil_of_length_eq_zero (by rw [len_data]; exact h0)
  have hemp : D.toList.isEmpty = true := isEmpty_yes h0
  have Hend := Yq (show numOf 8 D.data.toList = .bad 9 by unfold numOf; rw [if_pos (.inl hnil)])
  clear hnil hc hrange
  go_wp2_with fail
  go_quiet (fail)
  go_wp2
  go_ret2
  exact ⟨by rw [Hend.out]; rfl, Below.drewN Hb1.out _⟩
 ·have hnil : D.data.toList ≠ [] := fun e => h0 (by rw [← len_data, e]; rfl)
  have hemp : D.toList.isEmpty = false := isEmpty_no h0
  obtain ⟨n, hn⟩ : ∃ n, n = Lx.run (inBase 8) D.data.toList := ⟨_, rfl⟩
  have hall := run_all (p := inBase 8) (l := D.data.toList)
  rw [← hn] at HR hall
  rw [len_data] at hall
  have Hn := Yq hn
  clear hn
  by_cases hlt : n < D.size
  ·have Hend := Yq (show numOf 8 D.data.toList = .bad 9 by unfold numOf; rw [if_pos (.inr (by rw [← Hn.out, len_data]; exact hlt))])
   clear hall hnil hc hrange
   go_wp2_with fail
   refine HR.out.mono ?_
   rintro e w2 ⟨rfl, hb2⟩
   have hform2 := (Hv1.out.below hb2).form
   unfold errV at hform2
   have Hb2 := Yq (Hb1.out.trans (hb2.mono Hb1.out.size))
   clear hform hb2
   go_wp2_with fail
   go_quiet (fail)
   go_wp2
   go_ret2
   exact ⟨by rw [Hend.out]; rfl, Below.drewN Hb2.out _⟩
  ·have hdig : ∀ b ∈ D.data.toList, Lx.digit b < 8 := fun b hb => by have := hall hlt b hb; unfold inBase at this; exact of_decide_eq_true this
   have Hif := Yq (show numOf 8 D.data.toList = if 2147483647 < Lx.valueOf 8 D.data.toList then .bad 1 else .ok (Lx.valueOf 8 D.data.toList) by
    unfold numOf; rw [if_neg (by rintro (h | h); exact hnil h; rw [← Hn.out, len_data] at h; exact hlt h)])
   have HP := Yq (fun w0 => parse_8 D h0 (by omega) w0 hdig)
   obtain ⟨V, hV⟩ : ∃ V, V = Lx.valueOf 8 D.data.toList := ⟨_, rfl⟩
   rw [← hV] at HP Hif
   clear hV hall hdig hnil hform hrange hc
   go_wp2_with fail
   refine HR.out.mono ?_
   rintro e w2 ⟨rfl, hb2⟩
   have hv2 := Hv1.out.below hb2
   have hc2 := (hb2.cell (p := ⟨w.heap.size, 0, none⟩) (World.block_lt_of_cell? W1 _ Hc.out)).trans Hc.out
   have Hb2 := Yq (Hb1.out.trans (hb2.mono Hb1.out.size))
   clear hb2
   by_cases hbig : 2147483647 < V
   ·have HU := Yq (pu_big A 8 D V w2 hv2 (by omega) hbig (HP.out w2))
    have Hv2 := Yq hv2
    have Hend := Yq (show numOf 8 D.data.toList = .bad 1 by rw [Hif.out, if_pos hbig])
    clear hv2 hbig
    go_wp2_with fail
    refine HU.out.mono ?_
    rintro e w3 ⟨N, rfl, hb3⟩
    have hrange := (Hv2.out.below hb3).range
    unfold errV at hrange
    have Hb3 := Yq (Hb2.out.trans (hb3.mono Hb2.out.size))
    clear hb3 hc2
    go_wp2_with fail
    go_quiet (fail)
    go_wp2
    go_ret2
    exact ⟨by rw [Hend.out]; rfl, Below.drewN Hb3.out _⟩
   ·have HU := Yq (pu_ok 8 D V w2 hbig (HP.out w2))
    have Hend := Yq (show numOf 8 D.data.toList = .ok V by rw [Hif.out, if_neg hbig])
    have hVz : (V : Int) ≤ 2147483647 := by omega
    clear hv2 hbig
    go_wp2_with fail
    refine HU.out.mono ?_
    rintro e w3 ⟨rfl, hb3⟩
    have Hb3 := Yq (Hb2.out.trans (hb3.mono Hb2.out.size))
    clear hb3 hc2
    go_wp2_with fail
    go_ret2
    exact ⟨by rw [Hend.out]; rfl, Hb3.out⟩
set_option maxHeartbeats 4000000 in
set_option maxRecDepth 100000 in
theorem number_d1 (A : Nat → Addr) (s : ByteArray) (w : World) (hv : Vars A w) (hs : s.size ≤ 50000) (hx : ¬ s.data.toList.take 2 = [48, 120]) (hX : ¬ s.data.toList.take 2 = [48, 88]) (h1 : ¬ 1 < s.size) :
  Calls Tryz.prog 74 #[.string s] w (NumRet A (numOf 10 (s.data.toList.drop 0)) w) := by
 have hmf : ∀ (fn : Fn) (first cap : Array Value) (w : World), (Instr.makeFunc fn first cap).run Tryz.prog w = .ok (.func fn first cap) w := fun _ _ _ _ => rfl
 have H1 := Yq (fun (w0 : World) => hasprefix_any s 48 120 w0)
 rw [decide_eq_false hx] at H1
 have H2 := Yq (fun (w0 : World) => hasprefix_any s 48 88 w0)
 rw [decide_eq_false hX] at H2
 clear hx hX
 have h1z : decide ((1 : Int) < (s.size : Int)) = false := decide_eq_false (by omega)
 rw [List.drop_zero]
 have Hv := Yq hv
 clear hv
 go_enter Tryz.func74, Tryz.ntmps74
 go_upto_region 6 with (first
  | (go_at_call 70; (with_reducible refine (H1.out _).mono ?_); rintro e w' ⟨rfl, rfl⟩)
  | (go_at_call 70; (with_reducible refine (H2.out _).mono ?_); rintro e w' ⟨rfl, rfl⟩)
  | go_region)
 generalize hW : (w.alloc (.cells #[.int .i64 10] 3)) = W1
 have hc : W1.cell? ⟨w.heap.size, 0, none⟩ = some (.int .i64 10) := by rw [← hW]; first | (rw [World.cell?_drew, World.cell?_alloc_at _ _ _ _ rfl]; rfl) | (rw [World.cell?_alloc_at _ _ _ _ rfl]; rfl)
 have hb1 : Below w.heap.size w W1 := by rw [← hW]; first | exact ((Below.refl _ _).alloc (Nat.le_refl _) _).drew | exact (Below.refl _ _).alloc (Nat.le_refl _) _
 clear hW
 have hv1 := Hv.out.below hb1
 have hform := hv1.form
 have hrange := hv1.range
 unfold errV at hform hrange
 have Hv1 := Yq hv1
 have Hb1 := Yq hb1
 have HR := Yq (run_any s _ #[.pointer (some ⟨w.heap.size, 0, none⟩)] (inBase 10) W1 (by unfold maxLen; omega) (digf_gives 10 _ W1 hc) digf_enters)
 have Hc := Yq hc
 clear hb1 hv1
 by_cases h0 : s.size = 0
 ·have hnil : s.data.toList = [] := List.eq_nil_of_length_eq_zero (by rw [len_data]; exact h0)
  have hemp : s.toList.isEmpty = true := isEmpty_yes h0
  have Hend := Yq (show numOf 10 s.data.toList = .bad 9 by unfold numOf; rw [if_pos (.inl hnil)])
  clear hnil hc hrange
  go_wp2_with fail
  go_quiet (fail)
  go_wp2
  go_ret2
  exact ⟨by rw [Hend.out]; rfl, Below.drewN Hb1.out _⟩
 ·have hnil : s.data.toList ≠ [] := fun e => h0 (by rw [← len_data, e]; rfl)
  have hemp : s.toList.isEmpty = false := isEmpty_no h0
  obtain ⟨n, hn⟩ : ∃ n, n = Lx.run (inBase 10) s.data.toList := ⟨_, rfl⟩
  have hall := run_all (p := inBase 10) (l := s.data.toList)
  rw [← hn] at HR hall
  rw [len_data] at hall
  have Hn := Yq hn
  clear hn
  by_cases hlt : n < s.size
  ·have Hend := Yq (show numOf 10 s.data.toList = .bad 9 by unfold numOf; rw [if_pos (.inr (by rw [← Hn.out, len_data]; exact hlt))])
   clear hall hnil hc hrange
   go_wp2_with fail
   refine HR.out.mono ?_
   rintro e w2 ⟨rfl, hb2⟩
   have hform2 := (Hv1.out.below hb2).form
   unfold errV at hform2
   have Hb2 := Yq (Hb1.out.trans (hb2.mono Hb1.out.size))
   clear hform hb2
   go_wp2_with fail
   go_quiet (fail)
   go_wp2
   go_ret2
   exact ⟨by rw [Hend.out]; rfl, Below.drewN Hb2.out _⟩
  ·have hdig : ∀ b ∈ s.data.toList, Lx.digit b < 10 := fun b hb => by have := hall hlt b hb; unfold inBase at this; exact of_decide_eq_true this
   have Hif := Yq (show numOf 10 s.data.toList = if 2147483647 < Lx.valueOf 10 s.data.toList then .bad 1 else .ok (Lx.valueOf 10 s.data.toList) by
    unfold numOf; rw [if_neg (by rintro (h | h); exact hnil h; rw [← Hn.out, len_data] at h; exact hlt h)])
   have HP := Yq (fun w0 => parse_10 s h0 (by omega) w0 hdig)
   obtain ⟨V, hV⟩ : ∃ V, V = Lx.valueOf 10 s.data.toList := ⟨_, rfl⟩
   rw [← hV] at HP Hif
   clear hV hall hdig hnil hform hrange hc
   go_wp2_with fail
   refine HR.out.mono ?_
   rintro e w2 ⟨rfl, hb2⟩
   have hv2 := Hv1.out.below hb2
   have hc2 := (hb2.cell (p := ⟨w.heap.size, 0, none⟩) (World.block_lt_of_cell? W1 _ Hc.out)).trans Hc.out
   have Hb2 := Yq (Hb1.out.trans (hb2.mono Hb1.out.size))
   clear hb2
   by_cases hbig : 2147483647 < V
   ·have HU := Yq (pu_big A 10 s V w2 hv2 (by omega) hbig (HP.out w2))
    have Hv2 := Yq hv2
    have Hend := Yq (show numOf 10 s.data.toList = .bad 1 by rw [Hif.out, if_pos hbig])
    clear hv2 hbig
    go_wp2_with fail
    refine HU.out.mono ?_
    rintro e w3 ⟨N, rfl, hb3⟩
    have hrange := (Hv2.out.below hb3).range
    unfold errV at hrange
    have Hb3 := Yq (Hb2.out.trans (hb3.mono Hb2.out.size))
    clear hb3 hc2
    go_wp2_with fail
    go_quiet (fail)
    go_wp2
    go_ret2
    exact ⟨by rw [Hend.out]; rfl, Below.drewN Hb3.out _⟩
   ·have HU := Yq (pu_ok 10 s V w2 hbig (HP.out w2))
    have Hend := Yq (show numOf 10 s.data.toList = .ok V by rw [Hif.out, if_neg hbig])
    have hVz : (V : Int) ≤ 2147483647 := by omega
    clear hv2 hbig
    go_wp2_with fail
    refine HU.out.mono ?_
    rintro e w3 ⟨rfl, hb3⟩
    have Hb3 := Yq (Hb2.out.trans (hb3.mono Hb2.out.size))
    clear hb3 hc2
    go_wp2_with fail
    go_ret2
    exact ⟨by rw [Hend.out]; rfl, Hb3.out⟩
set_option maxHeartbeats 4000000 in
set_option maxRecDepth 100000 in
theorem number_d2 (A : Nat → Addr) (s : ByteArray) (w : World) (hv : Vars A w) (hs : s.size ≤ 50000) (hx : ¬ s.data.toList.take 2 = [48, 120]) (hX : ¬ s.data.toList.take 2 = [48, 88]) (h1 : 1 < s.size) (h0 : ¬ s[0] = 48) :
  Calls Tryz.prog 74 #[.string s] w (NumRet A (numOf 10 (s.data.toList.drop 0)) w) := by
 have hmf : ∀ (fn : Fn) (first cap : Array Value) (w : World), (Instr.makeFunc fn first cap).run Tryz.prog w = .ok (.func fn first cap) w := fun _ _ _ _ => rfl
 have H1 := Yq (fun (w0 : World) => hasprefix_any s 48 120 w0)
 rw [decide_eq_false hx] at H1
 have H2 := Yq (fun (w0 : World) => hasprefix_any s 48 88 w0)
 rw [decide_eq_false hX] at H2
 clear hx hX
 have h1z : decide ((1 : Int) < (s.size : Int)) = true := decide_eq_true (by omega)
 have h48 : (((s[0]'(by omega)).toNat : Int) == 48) = false := by
  rw [beq_eq_false_iff_ne]; intro e; exact h0 (UInt8.toNat_inj.1 (by show s[0].toNat = 48; omega))
 clear h0
 rw [List.drop_zero]
 have Hv := Yq hv
 clear hv
 go_enter Tryz.func74, Tryz.ntmps74
 go_upto_region 6 with (first
  | (go_at_call 70; (with_reducible refine (H1.out _).mono ?_); rintro e w' ⟨rfl, rfl⟩)
  | (go_at_call 70; (with_reducible refine (H2.out _).mono ?_); rintro e w' ⟨rfl, rfl⟩)
  | go_region)
 generalize hW : (w.alloc (.cells #[.int .i64 10] 3)) = W1
 have hc : W1.cell? ⟨w.heap.size, 0, none⟩ = some (.int .i64 10) := by rw [← hW]; first | (rw [World.cell?_drew, World.cell?_alloc_at _ _ _ _ rfl]; rfl) | (rw [World.cell?_alloc_at _ _ _ _ rfl]; rfl)
 have hb1 : Below w.heap.size w W1 := by rw [← hW]; first | exact ((Below.refl _ _).alloc (Nat.le_refl _) _).drew | exact (Below.refl _ _).alloc (Nat.le_refl _) _
 clear hW
 have hv1 := Hv.out.below hb1
 have hform := hv1.form
 have hrange := hv1.range
 unfold errV at hform hrange
 have Hv1 := Yq hv1
 have Hb1 := Yq hb1
 have HR := Yq (run_any s _ #[.pointer (some ⟨w.heap.size, 0, none⟩)] (inBase 10) W1 (by unfold maxLen; omega) (digf_gives 10 _ W1 hc) digf_enters)
 have Hc := Yq hc
 clear hb1 hv1
 by_cases h0 : s.size = 0
 ·have hnil : s.data.toList = [] := List.eq_nil_of_length_eq_zero (by rw [len_data]; exact h0)
  have hemp : s.toList.isEmpty = true := isEmpty_yes h0
  have Hend := Yq (show numOf 10 s.data.toList = .bad 9 by unfold numOf; rw [if_pos (.inl hnil)])
  clear hnil hc hrange
  go_wp2_with fail
  go_quiet (fail)
  go_wp2
  go_ret2
  exact ⟨by rw [Hend.out]; rfl, Below.drewN Hb1.out _⟩
 ·have hnil : s.data.toList ≠ [] := fun e => h0 (by rw [← len_data, e]; rfl)
  have hemp : s.toList.isEmpty = false := isEmpty_no h0
  obtain ⟨n, hn⟩ : ∃ n, n = Lx.run (inBase 10) s.data.toList := ⟨_, rfl⟩
  have hall := run_all (p := inBase 10) (l := s.data.toList)
  rw [← hn] at HR hall
  rw [len_data] at hall
  have Hn := Yq hn
  clear hn
  by_cases hlt : n < s.size
  ·have Hend := Yq (show numOf 10 s.data.toList = .bad 9 by unfold numOf; rw [if_pos (.inr (by rw [← Hn.out, len_data]; exact hlt))])
   clear hall hnil hc hrange
   go_wp2_with fail
   refine HR.out.mono ?_
   rintro e w2 ⟨rfl, hb2⟩
   have hform2 := (Hv1.out.below hb2).form
   unfold errV at hform2
   have Hb2 := Yq (Hb1.out.trans (hb2.mono Hb1.out.size))
   clear hform hb2
   go_wp2_with fail
   go_quiet (fail)
   go_wp2
   go_ret2
   exact ⟨by rw [Hend.out]; rfl, Below.drewN Hb2.out _⟩
  ·have hdig : ∀ b ∈ s.data.toList, Lx.digit b < 10 := fun b hb => by have := hall hlt b hb; unfold inBase at this; exact of_decide_eq_true this
   have Hif := Yq (show numOf 10 s.data.toList = if 2147483647 < Lx.valueOf 10 s.data.toList then .bad 1 else .ok (Lx.valueOf 10 s.data.toList) by
    unfold numOf; rw [if_neg (by rintro (h | h); exact hnil h; rw [← Hn.out, len_data] at h; exact hlt h)])
   have HP := Yq (fun w0 => parse_10 s h0 (by omega) w0 hdig)
   obtain ⟨V, hV⟩ : ∃ V, V = Lx.valueOf 10 s.data.toList := ⟨_, rfl⟩
   rw [← hV] at HP Hif
   clear hV hall hdig hnil hform hrange hc
   go_wp2_with fail
   refine HR.out.mono ?_
   rintro e w2 ⟨rfl, hb2⟩
   have hv2 := Hv1.out.below hb2
   have hc2 := (hb2.cell (p := ⟨w.heap.size, 0, none⟩) (World.block_lt_of_cell? W1 _ Hc.out)).trans Hc.out
   have Hb2 := Yq (Hb1.out.trans (hb2.mono Hb1.out.size))
   clear hb2
   by_cases hbig : 2147483647 < V
   ·have HU := Yq (pu_big A 10 s V w2 hv2 (by omega) hbig (HP.out w2))
    have Hv2 := Yq hv2
    have Hend := Yq (show numOf 10 s.data.toList = .bad 1 by rw [Hif.out, if_pos hbig])
    clear hv2 hbig
    go_wp2_with fail
    refine HU.out.mono ?_
    rintro e w3 ⟨N, rfl, hb3⟩
    have hrange := (Hv2.out.below hb3).range
    unfold errV at hrange
    have Hb3 := Yq (Hb2.out.trans (hb3.mono Hb2.out.size))
    clear hb3 hc2
    go_wp2_with fail
    go_quiet (fail)
    go_wp2
    go_ret2
    exact ⟨by rw [Hend.out]; rfl, Below.drewN Hb3.out _⟩
   ·have HU := Yq (pu_ok 10 s V w2 hbig (HP.out w2))
    have Hend := Yq (show numOf 10 s.data.toList = .ok V by rw [Hif.out, if_neg hbig])
    have hVz : (V : Int) ≤ 2147483647 := by omega
    clear hv2 hbig
    go_wp2_with fail
    refine HU.out.mono ?_
    rintro e w3 ⟨rfl, hb3⟩
    have Hb3 := Yq (Hb2.out.trans (hb3.mono Hb2.out.size))
    clear hb3 hc2
    go_wp2_with fail
    go_ret2
    exact ⟨by rw [Hend.out]; rfl, Hb3.out⟩
theorem number_any (A : Nat → Addr) (s : ByteArray) (w : World) (hv : Vars A w) (hs : s.size ≤ 50000) :
  Calls Tryz.prog 74 #[.string s] w (NumRet A (Lx.number s.data.toList) w) := by
 rw [number_of]
 unfold Lx.baseOf
 by_cases hx : s.data.toList.take 2 = [48, 120]
 ·rw [if_pos (.inl hx)]; exact number_x A s w hv hs hx
 by_cases hX : s.data.toList.take 2 = [48, 88]
 ·rw [if_pos (.inr hX)]; exact number_X A s w hv hs hX
 rw [if_neg (by rintro (h | h); exact hx h; exact hX h)]
 by_cases h1 : 1 < s.size
 ·have hh : s.data.toList.head? = some s[0] := by
   rw [List.head?_eq_getElem?]; exact Lib.data_getElem? s 0 (by omega)
  by_cases h0 : s[0] = 48
  ·rw [if_pos ⟨by rw [len_data]; exact h1, by rw [hh, h0]⟩]; exact number_o A s w hv hs hx hX h1 h0
  ·rw [if_neg (fun e => h0 (by have := e.2; rw [hh] at this; exact Option.some.inj this))]
   have := number_d2 A s w hv hs hx hX h1 h0
   rw [List.drop_zero] at this
   exact this
 ·rw [if_neg (fun e => h1 (by have := e.1; rw [len_data] at this; exact this))]
  have := number_d1 A s w hv hs hx hX h1
  rw [List.drop_zero] at this
  exact this
end Go.Proofs.YtpcfdngnmigkfaaGreatDoor
