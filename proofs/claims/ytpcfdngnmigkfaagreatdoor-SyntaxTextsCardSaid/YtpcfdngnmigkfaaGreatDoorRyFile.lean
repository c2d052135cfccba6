/- The reference redlineref08, walked: file. -/
import Derived.Test.YtpcfdngnmigkfaaGreatDoorRyMsg
import Derived.Test.YtpcfdngnmigkfaaGreatDoorRyParse
set_option linter.unusedVariables false
set_option linter.unusedSimpArgs false
namespace Go.Proofs.YtpcfdngnmigkfaaGreatDoor
open Go.RowKit
structure FW where
 pk : Lx.Bs
 v1 : Value
 v2 : Value
 ms : List Sx.Msg
 es : List Sx.Enm
 mss : List (List Value)
 ess : List (List Value)
def FW.cells (k : FW) : List Value := [.string (toB k.pk), k.v1, k.v2]
def FW.fil (k : FW) : Sx.Fil := ⟨k.pk, k.ms, k.es⟩
def p1 (k : FW) : ORow := rowCs 63 9 k.v1 k.mss
def p2 (k : FW) : ORow := rowCs 67 4 k.v2 k.ess
def fq (k : FW) : List ORow := [p1 k, p2 k]
def FRd (b : Nat) (k : FW) (h : Frag) : Prop := b = 0 → MsgsR h k.ms k.mss ∧ EnsR h k.es k.ess
theorem FRd.mono (b : Nat) (k : FW) : MonoF (FRd b k) := fun _ _ hle q e => ⟨(q e).1.mono hle, (q e).2.mono hle⟩
structure FLen (k : FW) (j : Nat) : Prop where
 l1 : k.mss.length ≤ j
 l2 : k.ess.length ≤ j
theorem FLen.mono {k : FW} {j q : Nat} (h : FLen k j) (hq : j ≤ q) : FLen k q := ⟨Nat.le_trans h.l1 hq, Nat.le_trans h.l2 hq⟩
section
variable {w0 w : World} {l : List (Nat × List Value)} {k : FW} {RD : Frag → Prop} {b : Nat}
theorem fw_ones (H : OwnR w0 l (fq k) RD w) : ∀ u ∈ k.cells, u.oneCell' = true := by
 have h1 := own_one (H.rows.own (p1 k) (by simp [fq]))
 have h2 := own_one (H.rows.own (p2 k) (by simp [fq]))
 intro u hu
 simp only [FW.cells, List.mem_cons, List.not_mem_nil, or_false] at hu
 rcases hu with rfl | rfl | rfl <;> first | rfl | exact h1 | exact h2
theorem fq_read (H : OwnR w0 l (fq k) (FRd 0 k) w) {j : Nat} (hl : FLen k j) (hj : j ≤ 10000) : FilR (fragU w w0.heap.size []) k.fil k.cells := by
 have hd := H.done rfl
 exact ⟨_, _, k.mss, k.ess, rfl, ⟨⟨FlatC.of_ownsU (H.rows.own (p1 k) (by simp [fq])) (Nat.le_refl _) hd.1.sizes, Nat.le_trans hl.l1 hj⟩, ⟨FlatC.of_ownsU (H.rows.own (p2 k) (by simp [fq])) (Nat.le_refl _) hd.2.sizes, Nat.le_trans hl.l2 hj⟩⟩, hd⟩
theorem fq_at1 (H : OwnR w0 l (fq k) RD w) : ∃ a c n, Hid (n = k.mss.length) ∧ Hid (k.v1 = .slice a n c) ∧ OwnR w0 l ([] ++ ⟨63, 9, .slice a n c, n, k.mss.flatten⟩ :: [p2 k]) RD w := by
 obtain ⟨a, c, e⟩ := slice_of (H.rows.own (p1 k) (by simp [fq]))
 exact ⟨a, c, _, Yq rfl, Yq e, by have e2 : k.v1 = .slice a (k.mss.length) c := e; rw [← e2]; exact H⟩
theorem fq_at2 (H : OwnR w0 l (fq k) RD w) : ∃ a c n, Hid (n = k.ess.length) ∧ Hid (k.v2 = .slice a n c) ∧ OwnR w0 l ([p1 k] ++ ⟨67, 4, .slice a n c, n, k.ess.flatten⟩ :: []) RD w := by
 obtain ⟨a, c, e⟩ := slice_of (H.rows.own (p2 k) (by simp [fq]))
 exact ⟨a, c, _, Yq rfl, Yq e, by have e2 : k.v2 = .slice a (k.ess.length) c := e; rw [← e2]; exact H⟩
theorem fq_push1 {y : Sx.Msg} {u : Value} {cs : List Value} (H : OwnR w0 l ([] ++ ⟨63, 9, u, k.mss.length + 1, k.mss.flatten ++ cs⟩ :: [p2 k]) (fun q => FRd 0 k q ∧ (b = 0 → MsgR q y cs)) w) : OwnR w0 l (fq { k with v1 := u, ms := k.ms ++ [y], mss := k.mss ++ [cs] }) (FRd b { k with v1 := u, ms := k.ms ++ [y], mss := k.mss ++ [cs] }) w := by
 unfold fq; simp only [p1, p2, rowCs_snoc] at H ⊢; exact H.read (FRd.mono _ _) (fun q e => ⟨MsgsR.snoc (q.2 e) (q.1 rfl).1, (q.1 rfl).2⟩)
theorem fq_push2 {y : Sx.Enm} {u : Value} {cs : List Value} (H : OwnR w0 l ([p1 k] ++ ⟨67, 4, u, k.ess.length + 1, k.ess.flatten ++ cs⟩ :: []) (fun q => FRd 0 k q ∧ (b = 0 → EnmR q y cs)) w) : OwnR w0 l (fq { k with v2 := u, es := k.es ++ [y], ess := k.ess ++ [cs] }) (FRd b { k with v2 := u, es := k.es ++ [y], ess := k.ess ++ [cs] }) w := by
 unfold fq; simp only [p1, p2, rowCs_snoc] at H ⊢; exact H.read (FRd.mono _ _) (fun q e => ⟨(q.1 rfl).1, EnsR.snoc (q.2 e) (q.1 rfl).2⟩)
end
def fw0 (t : Lx.Bs) : FW := ⟨t, .slice none 0 0, .slice none 0 0, [], [], [], []⟩
theorem fq_fw0 (t : Lx.Bs) : ∀ r ∈ fq (fw0 t), r.v = .slice .none 0 0 ∧ r.n = 0 ∧ r.xs = [] := by
 intro r hr
 simp only [fq, p1, p2, fw0, rowCs, List.mem_cons, List.not_mem_nil, or_false] at hr
 rcases hr with rfl | rfl <;> exact ⟨rfl, rfl, rfl⟩
theorem FRd_fw0 (b : Nat) (t : Lx.Bs) (h : Frag) : FRd b (fw0 t) h := fun _ => ⟨by show MsgsR h [] []; rw [MsgsR], by show EnsR h [] []; rw [EnsR]⟩
theorem one_fw0 (t : Lx.Bs) : ∀ u ∈ [.string (toB t), .slice none 0 0, .slice none 0 0], Value.oneCell' u = true := by intro u hu; simp only [List.mem_cons, List.not_mem_nil, or_false] at hu; rcases hu with rfl | rfl | rfl <;> rfl
section
variable {P : Program} {fn : Func} {tmps : Array Value} {w : World} {p q : Tmp} {T1 T2 : TypeId} {g1 g2 : Nat} {c1 c2 : List Value}
theorem results_cc (h : fn.results = #[.cell p T1, .cell q T2]) (h1 : tmps.getD p undef = .pointer (some ⟨g1, 0, none⟩)) (h2 : tmps.getD q undef = .pointer (some ⟨g2, 0, none⟩))
  (r1 : (loadVar T1 ⟨g1, 0, none⟩).run P w = .ok (.agg c1.toArray) w) (r2 : (loadVar T2 ⟨g2, 0, none⟩).run P w = .ok (.agg c2.toArray) w) : (results fn tmps).run P w = .ok (.tuple #[.agg c1.toArray, .agg c2.toArray]) w := by
 have h1' : tmps[p]?.getD undef = .pointer (some ⟨g1, 0, none⟩) := by simpa using h1
 have h2' : tmps[q]?.getD undef = .pointer (some ⟨g2, 0, none⟩) := by simpa using h2
 simp [results, h, h1', h2', asAddr, r1, r2, Sem.run_bind, Result.andThen]
end
theorem run_str2 (s t : ByteArray) (w : World) : (Instr.buildSlice 42 2 #[(0, .string s), (1, .string t)]).run Tryz.prog w = .ok (.slice (some ⟨w.heap.size, 0, none⟩) 2 2) (w.alloc (.cells #[.string s, .string t] 9)) := by kernel_rfl
theorem wpList_str2_ownR {ops : Array Oper} {rest : List Oper} {op : Oper} {a : Act} {w w0 : World} {Q : Exit → Act → World → Prop} {l : List (Nat × List Value)} {L : List ORow} {RD : Frag → Prop} (hgd : op.guard = none) (s t : ByteArray) (ho : op.op = .buildSlice 42 2 #[(0, .const (.string s)), (1, .const (.string t))]) (HO : OwnR w0 l L RD w)
  (h : ∀ w2 g, OwnR w0 ((g, [.string s, .string t]) :: l) L RD w2 → wpList Tryz.prog ops Q rest (a.put op.dst (.slice (some ⟨g, 0, none⟩) 2 2)) w2) : wpList Tryz.prog ops Q (op :: rest) a w := by
 refine wpList_plain hgd fun _ hK => ?_
 unfold Oper.wp execOp
 simp only [ho, List.map_toArray, List.map_cons, List.map_nil, Act.eval, Sem.run_bind, Sem.run_pure, run_str2, Result.andThen_ok]
 exact hK _ _ (h _ _ (HO.lay [.string s, .string t] 9))
theorem flat_str2 {w : World} {g : Nat} {s t : Lx.Bs} (hb : Blk w g [.string (toB s), .string (toB t)]) : FlatV sC (frag w) (.slice (some ⟨g, 0, none⟩) 2 2) [s, t] :=
 ⟨some ⟨g, 0, none⟩, 2, rfl, Nat.le_refl _, by unfold maxLen; decide, (fun e => by cases e), HRow.of_cells (fun i hi => by
  have h2 : i = 0 ∨ i = 1 := by simp [sC] at hi; omega
  rcases h2 with rfl | rfl
  ·exact hb.cell (o := 0) rfl
  ·exact hb.cell (o := 1) rfl)⟩
theorem want2_any (v : Value) (ts : List Lx.Tok) (g : Nat) (w : World) (h : FlatV tC (frag w) v ts) (hb : Blk w g [.string (toB Sx.bSyntax), .string (toB [61])]) :
  Calls Tryz.prog 57 #[v, .int .i64 0, .slice (some ⟨g, 0, none⟩) 2 2] w (R2 w (Sy.want ts 0 [Sx.bSyntax, [61]]).1 (Sy.want ts 0 [Sx.bSyntax, [61]]).2) :=
 want_any v ts 0 _ [Sx.bSyntax, [61]] w h (flat_str2 hb) (fun u hu => by simp only [List.mem_cons, List.not_mem_nil, or_false] at hu; rcases hu with rfl | rfl <;> decide) (by decide) (by simp)
theorem rmessage_0 (v : Value) (ts : List Lx.Tok) (hS : Small ts) (i : Nat) (w : World) (h : FlatV tC (frag w) v ts) (hi : i ≤ 800000) : Calls Tryz.prog 61 #[v, .int .i64 i, .int .i64 0] w (RTree MsgR 9 w (Sy.messageR ts 0 i)) :=
 rmessage_any v ts hS (ts.length + 2) 0 i w h hi (by decide) (by omega)
namespace Sy
open Lx (Bs Tok)
open Sx
variable {ts : List Tok}
theorem message_end {d i : Nat} (h : (messageR ts d i).2.2.2 = 0) : i < (messageR ts d i).2.1 ∧ (messageR ts d i).2.1 ≤ ts.length :=
 ⟨(message_agree ts d i).next ts (messageBy_go ts (parts_go ts _) d _) h, messageBy_end (partsL_le _) h⟩
theorem enum_next {i : Nat} (h : (enumR ts i).2.2.2 = 0) : i < (enumR ts i).2.1 := (enum_agree ts i).next ts (enum_go ts _) h
def FilL (ts : List Tok) (R : Fil × Stop) (n : Nat) (f : Fil) (j : Nat) (s : Stop) : Prop :=
 if s.2 = 0 then R = ((filesL ts n f j).1, (filesL ts n f j).2.2) else R.2 = s
theorem FilL.ok {R : Fil × Stop} {n : Nat} {f : Fil} {j : Nat} {s : Stop} (h : FilL ts R n f j s) (hs : s.2 = 0) : R = ((filesL ts n f j).1, (filesL ts n f j).2.2) := by unfold FilL at h; rw [if_pos hs] at h; exact h
theorem FilL.bad {R : Fil × Stop} {n : Nat} {f : Fil} {j : Nat} {s : Stop} (h : FilL ts R n f j s) (hs : ¬ s.2 = 0) : R.2 = s := by unfold FilL at h; rw [if_neg hs] at h; exact h
theorem want_none {i : Nat} {t : Bs} (h : (want ts i [t]).2.2 = 0) : (want ts i [t]).2 = none0 := by
 rw [want] at h ⊢
 by_cases c : isAt ts i (kindOf t) t = true
 ·rw [if_pos c, want]
 ·rw [if_neg c] at h; cases h
theorem FilL.end {R : Fil × Stop} {n : Nat} {f : Fil} {j : Nat} {s : Stop} (h : FilL ts R (n + 1) f j s) (hs : s.2 = 0) (c : ts.length ≤ j) : R = (f, none0) := by
 have h2 := h.ok hs
 rw [filesL, if_pos c] at h2; exact h2
theorem FilL.semi {R : Fil × Stop} {n : Nat} {f : Fil} {j : Nat} {s : Stop} (h : FilL ts R (n + 1) f j s) (hs : s.2 = 0) (c : ¬ ts.length ≤ j) (d : isAt ts j 4 [59] = true) : FilL ts R n f (j + 1) s := by
 have h2 := h.ok hs
 rw [filesL, if_neg c, if_pos d] at h2
 unfold FilL; rw [if_pos hs]; exact h2
theorem FilL.msg {R : Fil × Stop} {n : Nat} {f : Fil} {j q : Nat} {s s1 : Stop} {y : Msg} (h : FilL ts R (n + 1) f j s) (hs : s.2 = 0) (c : ¬ ts.length ≤ j) (d : isAt ts j 4 [59] = false) (e : isAt ts j 1 bMessage = true) (hm : messageR ts 0 (j + 1) = (y, q, s1)) : FilL ts R n { f with msgs := f.msgs ++ [y] } q s1 := by
 have h2 := h.ok hs
 rw [filesL, if_neg c, if_neg (by rw [d]; decide), if_pos e, hm] at h2
 unfold FilL
 by_cases z : s1.2 = 0
 ·rw [if_pos z]; rw [if_neg (by simpa using z)] at h2; exact h2
 ·rw [if_neg z]; rw [if_pos (by simpa using z)] at h2; rw [h2]
theorem FilL.enm {R : Fil × Stop} {n : Nat} {f : Fil} {j q : Nat} {s s1 : Stop} {y : Enm} (h : FilL ts R (n + 1) f j s) (hs : s.2 = 0) (c : ¬ ts.length ≤ j) (d : isAt ts j 4 [59] = false) (e : isAt ts j 1 bMessage = false) (e2 : isAt ts j 1 bEnum = true) (hm : enumR ts (j + 1) = (y, q, s1)) : FilL ts R n { f with enums := f.enums ++ [y] } q s1 := by
 have h2 := h.ok hs
 rw [filesL, if_neg c, if_neg (by rw [d]; decide), if_neg (by rw [e]; decide), if_pos e2, hm] at h2
 unfold FilL
 by_cases z : s1.2 = 0
 ·rw [if_pos z]; rw [if_neg (by simpa using z)] at h2; exact h2
 ·rw [if_neg z]; rw [if_pos (by simpa using z)] at h2; rw [h2]
theorem FilL.none {R : Fil × Stop} {n : Nat} {f : Fil} {j : Nat} {s : Stop} (h : FilL ts R (n + 1) f j s) (hs : s.2 = 0) (c : ¬ ts.length ≤ j) (d : isAt ts j 4 [59] = false) (e : isAt ts j 1 bMessage = false) (e2 : isAt ts j 1 bEnum = false) : FilL ts R n f j (Sy.bad j) := by
 have h2 := h.ok hs
 rw [filesL, if_neg c, if_neg (by rw [d]; decide), if_neg (by rw [e]; decide), if_neg (by rw [e2]; decide)] at h2
 unfold FilL; rw [if_neg (by simp [Sy.bad]), h2]
theorem file_bad {t : Bs} {i : Nat} {s : Stop} (h : headR ts = (t, i, s)) (hs : ¬ s.2 = 0) : (fileR ts).2 = s := by unfold fileR; rw [h, if_pos hs]
theorem file_go {t : Bs} {i : Nat} {s : Stop} (h : headR ts = (t, i, s)) (hs : s.2 = 0) : FilL ts (fileR ts) (ts.length + 2) ⟨t, [], []⟩ i none0 := by
 unfold FilL; rw [if_pos (show none0.2 = 0 from rfl)]; unfold fileR; rw [h]; dsimp only; rw [if_neg (by simpa using hs)]
theorem isAt_text {i k : Nat} {t : Bs} (h : i < ts.length) (ht : t ≠ []) : isAt ts i k t = (decide (ts[i].kind = k) && decide (ts[i].text = t)) := by
 unfold isAt; rw [List.getElem?_eq_getElem h]
 cases t with
 | nil => exact absurd rfl ht
 | cons a r => rfl
end Sy
def PCut (w : World) (ts : List Lx.Tok) (m : Nat) (HD : Lx.Bs × Nat × Sy.Stop) (gF gS g3 g2 : Nat) (av : Value) (wx : World) : Prop :=
 ∃ (t : Lx.Bs) (j : Nat) (s : Sy.Stop), av = .int .i64 j ∧ Hid (OwnR w [(gS, stC s), (gF, (fw0 t).cells), (g3, zSt), (g2, zFl)] (fq (fw0 t)) (FRd 0 (fw0 t)) wx) ∧ Hid (HD = (t, j, s)) ∧ s.2 = 0 ∧ j ≤ m
def FRel (w : World) (ts : List Lx.Tok) (m : Nat) (R : Sx.Fil × Sy.Stop) (gF gS g3 g2 fu : Nat) (av : Value) (wr : World) : Prop :=
 ∃ (k : FW) (j : Nat) (s : Sy.Stop), av = .int .i64 j ∧ Hid (OwnR w [(gS, stC s), (gF, k.cells), (g3, zSt), (g2, zFl)] (fq k) (FRd s.2 k) wr) ∧ Hid (Sy.FilL ts R fu k.fil j s) ∧ Hid (s.2 = 0 → m + 2 ≤ fu + j ∧ j ≤ m ∧ FLen k j)
def FHead (w : World) (ts : List Lx.Tok) (m : Nat) (R : Sx.Fil × Sy.Stop) (gF gS g3 g2 fu : Nat) (av : Value) (wr : World) : Prop :=
 ∃ (k : FW) (j : Nat) (s : Sy.Stop), av = .int .i64 j ∧ s.2 = 0 ∧ Hid (OwnR w [(gS, stC s), (gF, k.cells), (g3, zSt), (g2, zFl)] (fq k) (FRd 0 k) wr) ∧ Hid (Sy.FilL ts R fu k.fil j s) ∧ m + 2 ≤ fu + j ∧ j ≤ m ∧ Hid (FLen k j)
set_option maxHeartbeats 16000000 in
set_option maxRecDepth 100000 in
theorem rfile_any : FileSaid := by
 intro v ts w hS h
 obtain ⟨ad, cap, rfl, _, _, _⟩ := h.len
 obtain ⟨R, hR⟩ : ∃ R, R = Sy.fileR ts := ⟨_, rfl⟩
 rw [← hR]
 have HTk := Yq h
 have HI := Yq (fun j k t w0 (hb : Below w.heap.size w w0) => is_any (.slice ad ts.length cap) ts j k t w0 (h.mono (below_le hb)))
 have HW := Yq (fun j t g w0 (hb : Below w.heap.size w w0) hx hne hj => want1_any (.slice ad ts.length cap) ts j t g w0 (h.mono (below_le hb)) hx hne hj)
 have HW0 := Yq (fun g w0 (hb : Below w.heap.size w w0) hx => want2_any (.slice ad ts.length cap) ts g w0 (h.mono (below_le hb)) hx)
 have HDt := Yq (fun j w0 (hb : Below w.heap.size w w0) (hj : j ≤ 900000) => rdotted_any (.slice ad ts.length cap) ts hS j false w0 (h.mono (below_le hb)) hj)
 have HMs := Yq (fun j w0 (hb : Below w.heap.size w w0) (hj : j ≤ 800000) => rmessage_0 (.slice ad ts.length cap) ts hS j w0 (h.mono (below_le hb)) hj)
 have HEn := Yq (fun j w0 (hb : Below w.heap.size w w0) (hj : j ≤ 900000) => renum_any (.slice ad ts.length cap) ts hS j w0 (h.mono (below_le hb)) hj)
 unfold R2 at HW HW0
 unfold RV3 at HDt
 unfold RTree at HMs HEn
 have Hfew := Yq hS.few
 have hle0 := Sy.want_le ts [Sx.bSyntax, [61]] 0
 simp only [List.length_cons, List.length_nil] at hle0
 obtain ⟨HD, hHD⟩ : ∃ z, z = Sy.headR ts := ⟨_, rfl⟩
 have HHD := Yq hHD
 unfold Sy.headR at hHD
 obtain ⟨m, hm0⟩ : ∃ m, m = ts.length := ⟨_, rfl⟩
 have HM := Yq hm0.symm
 rw [← hm0] at HI HW HW0 HDt HMs HEn Hfew HTk ⊢
 generalize Sy.want ts 0 [Sx.bSyntax, [61]] = A at *
 obtain ⟨j0, s0⟩ := A
 dsimp only at HW0 hle0 hHD
 have HR := Yq hR
 have Hhd := Yq hHD
 have hbf := rfil_build0
 have hbs := stp_build0
 have HO0 := Own.nil w
 have HO := OwnR.start HO0 (fq (fw0 [])) (fq_fw0 [])
 clear hm0 hR hHD h hS HO0
 go_enter Tryz.func34, Tryz.ntmps34
 go_upto_region 1 with (first
  | ((with_reducible refine atOp (.alloc 34) ?_); (refine wpList_alloc_ownR rfl 34 rfl zFl zeroRFl HO ?_; clear HO; intro w1 g2 HO))
  | ((with_reducible refine atOp (.alloc 100) ?_); (refine wpList_alloc_ownR rfl 100 rfl zSt zeroStp HO ?_; clear HO; intro w1 g3 HO))
  | fail)
 go_upto_region 2 with (first
  | ((with_reducible refine atOp (.alloc 34) ?_); (refine wpList_alloc_ownR rfl 34 rfl zFl zeroRFl HO ?_; clear HO; intro w1 gF HO))
  | ((with_reducible refine atOp (.store 34 _ _) ?_); (refine wpList_store_ownR 0 rfl 34 _ _ rfl _ 0 (zFl) rfl rfl HO rfl infoRFl (Nat.le_refl _) one_zFl (patch_whole' _ _ rfl) ?_; clear HO; intro w6 HO))
  | fail)
 replace HO : OwnR w [(gF, [.string (toB []), .slice none 0 0, .slice none 0 0]), (g3, zSt), (g2, zFl)] (fq (fw0 [])) (fun _ => True) w6 := HO
 go_upto_region 3 with (first
  | ((with_reducible refine atOp (.buildSlice 42 _ _) ?_); (refine wpList_str2_ownR rfl _ _ rfl HO ?_; clear HO; intro w7 g7 HO))
  | (go_at_call 57; (refine (HW0.out _ _ HO.below (HO.own.at 0 rfl)).mono ?_); rintro e w8 ⟨rfl, hb⟩; replace HO := (HO.call hb).sub (List.sublist_cons_self _ _); clear hb)
  | ((with_reducible refine atOp (.alloc 100) ?_); (refine wpList_alloc_ownR rfl 100 rfl zSt zeroStp HO ?_; clear HO; intro w1 gS HO))
  | ((with_reducible refine atOp (.store 100 _ _) ?_); (refine wpList_store_ownR 0 rfl 100 _ _ rfl _ 0 (stC s0) rfl rfl HO rfl infoStp (Nat.le_refl _) (one_stC _) (patch_whole' _ _ rfl) ?_; clear HO; intro w6 HO))
  | fail)
 by_cases h0 : s0.2 = 0
 ·have e1 : w6.cell? ⟨_, 1, none⟩ = some (.int .i64 0) := ((HO.own.at 0 rfl).cell (o := 1) rfl).trans (by rw [show ((s0.2 : Nat) : Int) = 0 by omega])
  have Hh0 := Yq (Hhd.out.trans (if_neg (by simpa using h0)))
  clear Hhd
  by_cases hlt : ts.length ≤ j0
  ·have q5 : decide ((m : Int) ≤ (j0 : Int)) = true := decide_eq_true (by rw [← HM.out]; omega)
   have q5b : (m : Int) ≤ (j0 : Int) := by rw [← HM.out]; omega
   have Hh1 := Yq (Hh0.out.trans (if_neg (by unfold Sy.isAt; rw [List.getElem?_eq_none hlt]; decide)))
   clear Hh0
   have HRe : Hid (R.2 = Sy.bad j0) := Yq (by rw [HR.out]; exact Sy.file_bad (HHD.out.symm.trans (Hh1.out)) (by simp [Sy.bad]))
   have hnz : R.2.2 ≠ 0 := by rw [HRe.out]; simp [Sy.bad]
   clear HR HHD
   go_upto_region 6 with fail
   refine wp_ret5 (by kernel_rfl) (by kernel_rfl) rfl (fun _ _ _ _ _ h => h) HO.own (.int .i64 (j0)) 1 3 2 rfl rfl rfl (by decide) (by decide) rfl (by kernel_rfl) (.inl rfl) (by kernel_rfl) rfl (fun _ => by kernel_rfl) (bad_any j0) rfl rfl (by kernel_rfl) (by kernel_rfl) rfl rfl (by kernel_rfl) (by kernel_rfl) Tryz.underlying34 rfl infoRFl rfl (one_fw0 []) infoStp rfl (one_stC _) ?_
   intro w9 HO9
   go_wp2_with fail
   refine bodyPost_ret (v := .tuple #[.agg ([.string (toB []), .slice none 0 0, .slice none 0 0]).toArray, .agg (stC R.2).toArray]) ?_ rfl ⟨[.string (toB []), .slice none 0 0, .slice none 0 0], rfl, rfl, (one_fw0 []), (fun e => absurd e hnz), HO9.below⟩
   exact results_cc rfl (by kernel_rfl) (by kernel_rfl) (run_load_blk (HO9.at 3 rfl) _ Tryz.underlying34 rfl infoRFl) (by rw [HRe.out]; exact run_load_blk (HO9.at 2 rfl) _ Tryz.underlying100 rfl infoStp)
  ·have hlt2 : j0 < ts.length := by omega
   have q5 : decide ((m : Int) ≤ (j0 : Int)) = false := decide_eq_false (by rw [← HM.out]; omega)
   have q5b : ¬ (m : Int) ≤ (j0 : Int) := by rw [← HM.out]; omega
   obtain ⟨b0, o0, hbl0, hidx0, hcell0⟩ := FlatV.at (n := m) (cap := cap) (a := ad) (HTk.out.mono (below_le HO.below)) tC_len (by decide) (i := j0) hlt2 Tryz.underlying102 sizeRTks
   have d0 : w6.cell? ⟨b0, o0, none⟩ = some (.int .i64 ts[j0].kind) := by have := hcell0 0 _ rfl; rw [Nat.add_zero] at this; exact this
   have d1 : w6.cell? ⟨b0, o0 + 1, none⟩ = some (.string (toB ts[j0].text)) := hcell0 1 _ rfl
   have ht := Sy.isAt_text (k := 3) (t := Sx.bProto3) hlt2 (by decide)
   generalize ts[j0] = xw at *
   clear hcell0
   by_cases hk : xw.kind = 3
   ·rw [hk] at d0
    by_cases hx : xw.text = Sx.bProto3
    ·have t5 : ((toB xw.text).toList == [112, 114, 111, 116, 111, 51]) = true := (toB_lit _ _).trans (decide_eq_true hx)
     have Hh1 := Yq (Hh0.out.trans (if_pos (by rw [ht, hk, hx]; decide)))
     replace hx := Yq hx
     clear Hh0 ht
     have hm5 := Hfew.out
     have HW1 := Yq (fun g w0 hb hx => HW.out (j0 + 1) [59] g w0 hb hx (by decide) (by omega))
     have hwe := Sy.want_end (ts := ts) (i := j0 + 1) (t := [59])
     have hst := Sy.want_none (ts := ts) (i := j0 + 1) (t := [59])
     generalize Sy.want ts (j0 + 1) [[59]] = B at *
     obtain ⟨j1, s1⟩ := B
     dsimp only at HW1 hwe hst Hh1
     have hwe1 := Yq hwe
     have hst1 := Yq hst
     clear hwe hst
     go_upto_region 8 with (first
      | ((with_reducible refine atOp (.buildSlice 42 _ _) ?_); (refine wpList_str1_ownR rfl _ rfl HO ?_; clear HO; intro w7 g7 HO))
      | (go_at_call 57; (refine (HW1.out _ _ HO.below (HO.own.at 0 rfl)).mono ?_); rintro e w8 ⟨rfl, hb⟩; replace HO := (HO.call hb).sub (List.sublist_cons_self _ _); clear hb)
      | ((with_reducible refine atOp (.store 100 _ _) ?_); (refine wpList_store_ownR 0 rfl 100 _ _ rfl _ 0 (stC s1) rfl rfl HO rfl infoStp (Nat.le_refl _) (one_stC _) (patch_whole' _ _ rfl) ?_; clear HO; intro w6 HO))
      | fail)
     by_cases h0 : s1.2 = 0
     ·have e1 : w6.cell? ⟨_, 1, none⟩ = some (.int .i64 0) := ((HO.own.at 0 rfl).cell (o := 1) rfl).trans (by rw [show ((s1.2 : Nat) : Int) = 0 by omega])
      have Hh2 := Yq (Hh1.out.trans (if_neg (by simpa using h0)))
      have hj1 : j1 ≤ m := by have := hwe1.out h0; rw [HM.out] at this; exact this
      clear Hh1
      have HI1 := Yq (fun w0 hb => HI.out j1 1 Sx.bPackage w0 hb)
      have hp1 : j1 + 1 ≤ 800000 := by omega
      go_upto_if 59 with (first
       | (go_at_call 59; (refine (HI1.out _ HO.below).mono ?_); rintro e w3 ⟨rfl, rfl⟩)
       | fail)
      clear e1
      go_cut [5] from 59 to 85 (fun av wx => PCut w ts m HD gF gS g3 g2 av wx)
      case first =>
       cases hp : Sy.isAt ts j1 1 Sx.bPackage
       ·have Hh3 := Yq (Hh2.out.trans (if_neg (by rw [hp]; decide)))
        have HS0 : Hid (HD = ([], j1, s1)) := Yq (Hh3.out.trans (by rw [hst1.out h0]))
        go_wp2_with fail
        go_meet
        exact ⟨[], j1, s1, rfl, Yq (HO.read (RD' := FRd 0 (fw0 [])) (FRd.mono _ _) (fun _ => FRd_fw0 _ _ _)), Yq (HS0.out), h0, by omega⟩
       ·have Hh3 := Yq (Hh2.out.trans (if_pos hp))
        clear Hh2
        have hdl := Sy.dotted_le ts (j1 + 1) false (max (j1 + 1) ts.length) (Nat.le_max_left _ _) (Nat.le_max_right _ _)
        have HD1 := Yq (fun w0 hb => HDt.out (j1 + 1) w0 hb (by omega))
        generalize Sy.dotted ts (j1 + 1) false = C at *
        obtain ⟨t2, j2, s2⟩ := C
        dsimp only at HD1 Hh3 hdl
        rw [HM.out] at hdl
        have hm5 := Hfew.out
        have hj2 : j2 ≤ 6000 := by omega
        clear hdl
        go_upto_region 12 with (first
         | (go_at_call 60; (refine (HD1.out _ HO.below).mono ?_); rintro e w3 ⟨rfl, hb⟩; replace HO := HO.call hb; clear hb)
         | ((with_reducible refine atOp (.store 9 _ _) ?_); (refine wpList_store_ownR1 (ds := [.string (toB t2), .slice none 0 0, .slice none 0 0]) 1 rfl 9 _ _ rfl _ 0 (.string (toB t2)) rfl rfl HO rfl infoS1 ?_ rfl rfl ?_; (· show 0 + 1 ≤ 3; decide); (clear HO; intro w9 HO)))
         | ((with_reducible refine atOp (.store 100 _ _) ?_); (refine wpList_store_ownR 0 rfl 100 _ _ rfl _ 0 (stC s2) rfl rfl HO rfl infoStp (Nat.le_refl _) (one_stC _) (patch_whole' _ _ rfl) ?_; clear HO; intro w6 HO))
         | fail)
        by_cases h0 : s2.2 = 0
        ·have e1 : w6.cell? ⟨_, 1, none⟩ = some (.int .i64 0) := ((HO.own.at 0 rfl).cell (o := 1) rfl).trans (by rw [show ((s2.2 : Nat) : Int) = 0 by omega])
         have Hh4 := Yq (Hh3.out.trans (if_neg (by simpa using h0)))
         clear Hh3
         have hwe := Sy.want_end (ts := ts) (i := j2) (t := [59])
         have HW3 := Yq (fun g w0 hb hx => HW.out (j2) [59] g w0 hb hx (by decide) (by omega))
         generalize Sy.want ts j2 [[59]] = D at *
         obtain ⟨j3, s3⟩ := D
         dsimp only at HW3 Hh4 hwe
         have hwe3 := Yq hwe
         clear hwe
         go_upto_region 15 with (first
          | ((with_reducible refine atOp (.buildSlice 42 _ _) ?_); (refine wpList_str1_ownR rfl _ rfl HO ?_; clear HO; intro w7 g7 HO))
          | (go_at_call 57; (refine (HW3.out _ _ HO.below (HO.own.at 0 rfl)).mono ?_); rintro e w8 ⟨rfl, hb⟩; replace HO := (HO.call hb).sub (List.sublist_cons_self _ _); clear hb)
          | ((with_reducible refine atOp (.store 100 _ _) ?_); (refine wpList_store_ownR 0 rfl 100 _ _ rfl _ 0 (stC s3) rfl rfl HO rfl infoStp (Nat.le_refl _) (one_stC _) (patch_whole' _ _ rfl) ?_; clear HO; intro w6 HO))
          | fail)
         by_cases h0 : s3.2 = 0
         ·have e1 : w6.cell? ⟨_, 1, none⟩ = some (.int .i64 0) := ((HO.own.at 0 rfl).cell (o := 1) rfl).trans (by rw [show ((s3.2 : Nat) : Int) = 0 by omega])
          have hj3 : j3 ≤ m := by have := hwe3.out h0; rw [HM.out] at this; exact this
          go_wp2_with fail
          go_meet
          exact ⟨t2, j3, s3, rfl, Yq (HO.read (RD' := FRd 0 (fw0 t2)) (FRd.mono _ _) (fun _ => FRd_fw0 _ _ _)), Yq (Hh4.out), h0, by omega⟩
         ·obtain ⟨z, hz⟩ : ∃ z, z = (s3.2 : Int) := ⟨_, rfl⟩
          have e1 : w6.cell? ⟨_, 1, none⟩ = some (.int .i64 z) := ((HO.own.at 0 rfl).cell (o := 1) rfl).trans (by rw [hz])
          have q1 : (z == 0) = false := by rw [beq_eq_false_iff_ne]; omega
          have HRe : Hid (R.2 = s3) := Yq (by rw [HR.out]; exact Sy.file_bad (HHD.out.symm.trans (Hh4.out)) h0)
          have hnz : R.2.2 ≠ 0 := by rw [HRe.out]; exact h0
          clear HR HHD hz
          go_upto_region 16 with fail
          refine wp_ret4 (by kernel_rfl) (by kernel_rfl) rfl (fun _ _ _ _ _ h => h) HO.own 1 0 3 2 rfl rfl rfl rfl (by decide) (by decide) (by decide) rfl (by kernel_rfl) rfl (by kernel_rfl) rfl rfl (by kernel_rfl) (by kernel_rfl) rfl rfl (by kernel_rfl) (by kernel_rfl) Tryz.underlying34 rfl infoRFl rfl (one_fw0 t2) Tryz.underlying100 rfl infoStp rfl (one_stC _) ?_
          intro w9 HO9
          go_wp2_with fail
          refine bodyPost_ret (v := .tuple #[.agg ([.string (toB t2), .slice none 0 0, .slice none 0 0]).toArray, .agg (stC R.2).toArray]) ?_ rfl ⟨[.string (toB t2), .slice none 0 0, .slice none 0 0], rfl, rfl, (one_fw0 t2), (fun e => absurd e hnz), HO9.below⟩
          exact results_cc rfl (by kernel_rfl) (by kernel_rfl) (run_load_blk (HO9.at 3 rfl) _ Tryz.underlying34 rfl infoRFl) (by rw [HRe.out]; exact run_load_blk (HO9.at 2 rfl) _ Tryz.underlying100 rfl infoStp)
        ·obtain ⟨z, hz⟩ : ∃ z, z = (s2.2 : Int) := ⟨_, rfl⟩
         have e1 : w6.cell? ⟨_, 1, none⟩ = some (.int .i64 z) := ((HO.own.at 0 rfl).cell (o := 1) rfl).trans (by rw [hz])
         have q1 : (z == 0) = false := by rw [beq_eq_false_iff_ne]; omega
         have HRe : Hid (R.2 = s2) := Yq (by rw [HR.out]; exact Sy.file_bad (HHD.out.symm.trans (Hh3.out.trans (if_pos (by simpa using h0)))) h0)
         have hnz : R.2.2 ≠ 0 := by rw [HRe.out]; exact h0
         clear HR HHD hz
         go_upto_region 13 with fail
         refine wp_ret4 (by kernel_rfl) (by kernel_rfl) rfl (fun _ _ _ _ _ h => h) HO.own 1 0 3 2 rfl rfl rfl rfl (by decide) (by decide) (by decide) rfl (by kernel_rfl) rfl (by kernel_rfl) rfl rfl (by kernel_rfl) (by kernel_rfl) rfl rfl (by kernel_rfl) (by kernel_rfl) Tryz.underlying34 rfl infoRFl rfl (one_fw0 t2) Tryz.underlying100 rfl infoStp rfl (one_stC _) ?_
         intro w9 HO9
         go_wp2_with fail
         refine bodyPost_ret (v := .tuple #[.agg ([.string (toB t2), .slice none 0 0, .slice none 0 0]).toArray, .agg (stC R.2).toArray]) ?_ rfl ⟨[.string (toB t2), .slice none 0 0, .slice none 0 0], rfl, rfl, (one_fw0 t2), (fun e => absurd e hnz), HO9.below⟩
         exact results_cc rfl (by kernel_rfl) (by kernel_rfl) (run_load_blk (HO9.at 3 rfl) _ Tryz.underlying34 rfl infoRFl) (by rw [HRe.out]; exact run_load_blk (HO9.at 2 rfl) _ Tryz.underlying100 rfl infoStp)
      case rest =>
       obtain ⟨t, jh, s, rfl, HO1, hh, hs, hj⟩ := hcut
       clear HO HI1 hp1
       have HF0 : Hid (Sy.FilL ts R (m + 2) (fw0 t).fil jh s) := Yq (by
        have h9 := Sy.file_go (HHD.out.symm.trans hh.out) hs
        rw [HR.out, ← HM.out]
        unfold Sy.FilL at h9 ⊢
        rw [if_pos (show Sy.none0.2 = 0 from rfl)] at h9; rw [if_pos hs]; exact h9)
       go_wp2_with fail
       go_simp
       go_loopg [5] (m + 2) (fun fu av wr => FHead w ts m R gF gS g3 g2 fu av wr)
       case atStart => exact ⟨fw0 t, jh, s, rfl, hs, HO1, HF0, by omega, hj, Yq ⟨Nat.zero_le _, Nat.zero_le _⟩⟩
       case round =>
        clear HO1 HF0 HR hh hs
        obtain ⟨k, j, s, rfl, hs0, HO, HR, hb1, hb2, hlen⟩ := hrel
        replace HO := HO.out
        obtain ⟨fu, rfl⟩ : ∃ n, gk = n + 1 := ⟨gk - 1, by omega⟩
        have hj8 : j + 1 ≤ 800000 := by omega
        by_cases hlt : j < m
        ·have q9 : decide ((j : Int) < (m : Int)) = true := decide_eq_true (by omega)
         have HI4 := Yq (fun w0 hb => HI.out j 4 [59] w0 hb)
         have HIm := Yq (fun w0 hb => HI.out j 1 Sx.bMessage w0 hb)
         have HIe := Yq (fun w0 hb => HI.out j 1 Sx.bEnum w0 hb)
         cases h4 : Sy.isAt ts j 4 [59]
         ·rw [h4] at HI4
          go_upto_region 21 with (first
           | (go_at_call 59; (refine (HI4.out _ HO.below).mono ?_); rintro e w3 ⟨rfl, rfl⟩)
           | fail)
          cases hm : Sy.isAt ts j 1 Sx.bMessage
          ·rw [hm] at HIm
           go_upto_region 25 with (first
            | (go_at_call 59; (refine (HIm.out _ HO.below).mono ?_); rintro e w3 ⟨rfl, rfl⟩)
            | fail)
           cases he : Sy.isAt ts j 1 Sx.bEnum
           ·rw [he] at HIe
            have HRn := Yq (Sy.FilL.none HR.out hs0 (by rw [HM.out]; omega) h4 hm he)
            go_upto_region 29 with (first
        | (go_at_call 59; (refine (HIe.out _ HO.below).mono ?_); rintro e w3 ⟨rfl, rfl⟩)
        | (go_at_call 58; (with_reducible refine (bad_any j _).mono ?_); rintro e w4 ⟨rfl, hb⟩; replace HO := HO.call hb; clear hb)
        | ((with_reducible refine atOp (.store 100 _ _) ?_); (refine wpList_store_ownR 0 rfl 100 _ _ rfl _ 0 (stC (Sy.bad j)) rfl rfl HO rfl infoStp (Nat.le_refl _) (one_stC _) (patch_whole' _ _ rfl) ?_; clear HO; intro w9 HO))
        | fail)
            have HOn := HO.read (RD' := FRd (Sy.bad j).2 k) (FRd.mono _ _) (fun _ e => by simp [Sy.bad] at e)
            have hs1 : ¬ (Sy.bad j).2 = 0 := by simp [Sy.bad]
            have hb3 := True.intro
            obtain ⟨z, hz⟩ : ∃ z, z = ((Sy.bad j).2 : Int) := ⟨_, rfl⟩
            have e1 : w9.cell? ⟨gS, 1, none⟩ = some (.int .i64 z) := ((HOn.own.at 0 rfl).cell (o := 1) rfl).trans (by rw [hz])
            have q1 : (z == 0) = false := by rw [beq_eq_false_iff_ne]; omega
            have HRe : Hid (R.2 = (Sy.bad j)) := Yq (Sy.FilL.bad HRn.out hs1)
            have hnz : R.2.2 ≠ 0 := by rw [HRe.out]; exact hs1
            have hone := fw_ones HOn
            clear HRn hz hb3 HR
            go_upto_region 30 with fail
            refine wp_ret4 (by kernel_rfl) (by kernel_rfl) rfl (fun _ _ _ _ _ h => h) HOn.own 1 0 3 2 rfl rfl rfl rfl (by decide) (by decide) (by decide) rfl (by kernel_rfl) rfl (by kernel_rfl) rfl rfl (by kernel_rfl) (by kernel_rfl) rfl rfl (by kernel_rfl) (by kernel_rfl) Tryz.underlying34 rfl infoRFl rfl hone Tryz.underlying100 rfl infoStp rfl (one_stC _) ?_
            intro w10 HO10
            go_wp2_with fail
            refine bodyPost_ret (v := .tuple #[.agg ((k : FW).cells).toArray, .agg (stC R.2).toArray]) ?_ rfl ⟨(k : FW).cells, rfl, rfl, hone, (fun e => absurd e hnz), HO10.below⟩
            exact results_cc rfl (by kernel_rfl) (by kernel_rfl) (run_load_blk (HO10.at 3 rfl) _ Tryz.underlying34 rfl infoRFl) (by rw [HRe.out]; exact run_load_blk (HO10.at 2 rfl) _ Tryz.underlying100 rfl infoStp)
           ·rw [he] at HIe
            have HC := Yq (fun w0 hb => HEn.out (j + 1) w0 hb (Nat.le_trans hj8 (by decide)))
            have HRn : Hid (Sy.FilL ts R fu { k.fil with enums := k.fil.enums ++ [(Sy.enumR ts (j + 1)).1] } (Sy.enumR ts (j + 1)).2.1 (Sy.enumR ts (j + 1)).2.2) := Yq (Sy.FilL.enm HR.out hs0 (by rw [HM.out]; omega) h4 hm he rfl)
            have hen := (fun e => (⟨Sy.enum_next e, Sy.enum_end e⟩ : j + 1 < _ ∧ _ ≤ ts.length) : (Sy.enumR ts (j + 1)).2.2.2 = 0 → j + 1 < (Sy.enumR ts (j + 1)).2.1 ∧ (Sy.enumR ts (j + 1)).2.1 ≤ ts.length)
            generalize Sy.enumR ts (j + 1) = B at *
            obtain ⟨y, q, s1⟩ := B
            dsimp only at HC hen
            go_upto_region 28 with (first
             | (go_at_call 59; (refine (HIe.out _ HO.below).mono ?_); rintro e w3 ⟨rfl, rfl⟩)
             | ((with_reducible refine atOp (.alloc 67) ?_); (refine wpList_alloc_ownR rfl 67 rfl zEn zeroRE HO ?_; clear HO; intro w1 gK HO))
             | (go_at_call 62; (refine (HC.out _ HO.below).mono ?_); rintro e w3 ⟨cs, rfl, hcl, hone, hrd, hb⟩; have hsz : (Tryz.prog.info? 67).map (·.size) = some cs.length := (by rw [hcl]; exact infoRE); replace hcl := Yq hcl; replace HO := HO.with hb (X := fun q => s1.2 = 0 → EnmR q y cs) (fun _ _ hle q e => (q e).mono hle) hrd; clear hb hrd)
             | ((with_reducible refine atOp (.store 67 _ _) ?_); refine wpList_store_ownR 0 rfl 67 _ _ rfl _ 0 cs rfl rfl HO rfl hsz (by rw [hcl.out]; decide) hone (patch_whole' _ _ (by rw [hcl.out]; rfl)) ?_; clear HO; intro w6 HO)
             | ((with_reducible refine atOp (.store 100 _ _) ?_); (refine wpList_store_ownR 1 rfl 100 _ _ rfl _ 0 (stC s1) rfl rfl HO rfl infoStp (Nat.le_refl _) (one_stC _) (patch_whole' _ _ rfl) ?_; clear HO; intro w6 HO))
             | fail)
            obtain ⟨ua, uc, n0, hn0, hv, HOa⟩ := fq_at2 HO
            have cu : w6.cell? ⟨gF, 2, none⟩ = some (.slice ua n0 uc) := ((HO.own.at 2 rfl).cell (o := 2) rfl).trans (by rw [hv.out])
            have hvl := (HO.own.at 0 rfl).whole
            have hn5 : (n0 + 1) * 200 ≤ 140737488355328 := by have := hlen.out.l2; have := hn0.out; have := Hfew.out; omega
            clear HO
            go_upto_region 29 with (first
             | ((with_reducible refine atOp (.load 67 _) ?_); refine wpList_load_seg rfl 67 _ rfl _ _ rfl _ _ hvl Tryz.underlying67 rfl hsz ?_)
             | ((with_reducible refine atOp (.buildSlice _ _ _) ?_); refine wpList_buildSlice1 rfl 32 67 _ rfl cs (.agg cs.toArray) rfl Tryz.underlying32 (by rw [hcl.out]; exact info2RE) (by rw [hcl.out]; decide) (by rw [hcl.out]; decide) rfl ?_)
             | (at_builtin; refine wpList_append_ownR T_RE rfl _ _ rfl cs HOa rfl rfl hcl.out hone (Nat.le_trans (Nat.mul_le_mul_left _ (by decide)) hn5) ?_; (intro u9 w9 HO9 hone9; clear cu hvl HOa))
             | ((with_reducible refine atOp (.store 32 _ _) ?_); refine wpList_store_ownR1 (ds := ({ k with v2 := u9, es := k.es ++ [y], ess := k.ess ++ [cs] } : FW).cells) 2 rfl 32 _ _ rfl _ 2 u9 rfl rfl HO9 rfl info1RE ?_ hone9 rfl ?_; (· show 2 + 1 ≤ 3; decide); (clear HO9; intro w9 HO9)))
            have HOn := (fq_push2 (k := k) (b := s1.2) (by rw [← hn0.out]; exact HO9)).sub (.cons _ (List.Sublist.refl _))
            have hb3 : Hid (s1.2 = 0 → m + 2 ≤ fu + q ∧ q ≤ m ∧ FLen { k with v2 := u9, es := k.es ++ [y], ess := k.ess ++ [cs] } q) := Yq (fun e => by
             obtain ⟨h1, h2⟩ := hen e
             rw [HM.out] at h2
             exact ⟨by omega, h2, { hlen.out.mono (show j ≤ q by omega) with l2 := by have := hlen.out.l2; simp only [List.length_append, List.length_cons, List.length_nil]; omega }⟩)
            clear hen HO9
            by_cases hs1 : s1.2 = 0
            ·have e1 : w9.cell? ⟨gS, 1, none⟩ = some (.int .i64 0) := ((HOn.own.at 0 rfl).cell (o := 1) rfl).trans (by rw [show ((s1.2 : Nat) : Int) = 0 by omega])
             obtain ⟨h1, h2, h3⟩ := hb3.out hs1
             have HO2 := Yq (HOn.read (RD' := FRd 0 ({ k with v2 := u9, es := k.es ++ [y], ess := k.ess ++ [cs] } : FW)) (FRd.mono _ _) (fun q _ => q hs1))
             clear HOn
             go_wp2_with fail
             go_roundg fu
             case measure => omega
             case rel => exact ⟨{ k with v2 := u9, es := k.es ++ [y], ess := k.ess ++ [cs] }, q, s1, by go_num, hs1, HO2, HRn, h1, h2, Yq h3⟩
            ·obtain ⟨z, hz⟩ : ∃ z, z = (s1.2 : Int) := ⟨_, rfl⟩
             have e1 : w9.cell? ⟨gS, 1, none⟩ = some (.int .i64 z) := ((HOn.own.at 0 rfl).cell (o := 1) rfl).trans (by rw [hz])
             have q1 : (z == 0) = false := by rw [beq_eq_false_iff_ne]; omega
             have HRe : Hid (R.2 = s1) := Yq (Sy.FilL.bad HRn.out hs1)
             have hnz : R.2.2 ≠ 0 := by rw [HRe.out]; exact hs1
             have hone := fw_ones HOn
             clear HRn hz hb3 HR
             go_upto_region 30 with fail
             refine wp_ret4 (by kernel_rfl) (by kernel_rfl) rfl (fun _ _ _ _ _ h => h) HOn.own 1 0 3 2 rfl rfl rfl rfl (by decide) (by decide) (by decide) rfl (by kernel_rfl) rfl (by kernel_rfl) rfl rfl (by kernel_rfl) (by kernel_rfl) rfl rfl (by kernel_rfl) (by kernel_rfl) Tryz.underlying34 rfl infoRFl rfl hone Tryz.underlying100 rfl infoStp rfl (one_stC _) ?_
             intro w10 HO10
             go_wp2_with fail
             refine bodyPost_ret (v := .tuple #[.agg (({ k with v2 := u9, es := k.es ++ [y], ess := k.ess ++ [cs] } : FW).cells).toArray, .agg (stC R.2).toArray]) ?_ rfl ⟨({ k with v2 := u9, es := k.es ++ [y], ess := k.ess ++ [cs] } : FW).cells, rfl, rfl, hone, (fun e => absurd e hnz), HO10.below⟩
             exact results_cc rfl (by kernel_rfl) (by kernel_rfl) (run_load_blk (HO10.at 3 rfl) _ Tryz.underlying34 rfl infoRFl) (by rw [HRe.out]; exact run_load_blk (HO10.at 2 rfl) _ Tryz.underlying100 rfl infoStp)
          ·rw [hm] at HIm
           have HC := Yq (fun w0 hb => HMs.out (j + 1) w0 hb hj8)
           have HRn : Hid (Sy.FilL ts R fu { k.fil with msgs := k.fil.msgs ++ [(Sy.messageR ts 0 (j + 1)).1] } (Sy.messageR ts 0 (j + 1)).2.1 (Sy.messageR ts 0 (j + 1)).2.2) := Yq (Sy.FilL.msg HR.out hs0 (by rw [HM.out]; omega) h4 hm rfl)
           have hen := Sy.message_end (ts := ts) (d := 0) (i := j + 1)
           generalize Sy.messageR ts 0 (j + 1) = B at *
           obtain ⟨y, q, s1⟩ := B
           dsimp only at HC hen
           go_upto_region 24 with (first
            | (go_at_call 59; (refine (HIm.out _ HO.below).mono ?_); rintro e w3 ⟨rfl, rfl⟩)
            | ((with_reducible refine atOp (.alloc 63) ?_); (refine wpList_alloc_ownR rfl 63 rfl zMs zeroRM HO ?_; clear HO; intro w1 gK HO))
            | (go_at_call 61; (refine (HC.out _ HO.below).mono ?_); rintro e w3 ⟨cs, rfl, hcl, hone, hrd, hb⟩; have hsz : (Tryz.prog.info? 63).map (·.size) = some cs.length := (by rw [hcl]; exact infoRM); replace hcl := Yq hcl; replace HO := HO.with hb (X := fun q => s1.2 = 0 → MsgR q y cs) (fun _ _ hle q e => (q e).mono hle) hrd; clear hb hrd)
            | ((with_reducible refine atOp (.store 63 _ _) ?_); refine wpList_store_ownR 0 rfl 63 _ _ rfl _ 0 cs rfl rfl HO rfl hsz (by rw [hcl.out]; decide) hone (patch_whole' _ _ (by rw [hcl.out]; rfl)) ?_; clear HO; intro w6 HO)
            | ((with_reducible refine atOp (.store 100 _ _) ?_); (refine wpList_store_ownR 1 rfl 100 _ _ rfl _ 0 (stC s1) rfl rfl HO rfl infoStp (Nat.le_refl _) (one_stC _) (patch_whole' _ _ rfl) ?_; clear HO; intro w6 HO))
            | fail)
           obtain ⟨ua, uc, n0, hn0, hv, HOa⟩ := fq_at1 HO
           have cu : w6.cell? ⟨gF, 1, none⟩ = some (.slice ua n0 uc) := ((HO.own.at 2 rfl).cell (o := 1) rfl).trans (by rw [hv.out])
           have hvl := (HO.own.at 0 rfl).whole
           have hn5 : (n0 + 1) * 200 ≤ 140737488355328 := by have := hlen.out.l1; have := hn0.out; have := Hfew.out; omega
           clear HO
           go_upto_region 29 with (first
            | ((with_reducible refine atOp (.load 63 _) ?_); refine wpList_load_seg rfl 63 _ rfl _ _ rfl _ _ hvl Tryz.underlying63 rfl hsz ?_)
            | ((with_reducible refine atOp (.buildSlice _ _ _) ?_); refine wpList_buildSlice1 rfl 31 63 _ rfl cs (.agg cs.toArray) rfl Tryz.underlying31 (by rw [hcl.out]; exact info2RM) (by rw [hcl.out]; decide) (by rw [hcl.out]; decide) rfl ?_)
            | (at_builtin; refine wpList_append_ownR T_RM rfl _ _ rfl cs HOa rfl rfl hcl.out hone (Nat.le_trans (Nat.mul_le_mul_left _ (by decide)) hn5) ?_; (intro u9 w9 HO9 hone9; clear cu hvl HOa))
            | ((with_reducible refine atOp (.store 31 _ _) ?_); refine wpList_store_ownR1 (ds := ({ k with v1 := u9, ms := k.ms ++ [y], mss := k.mss ++ [cs] } : FW).cells) 2 rfl 31 _ _ rfl _ 1 u9 rfl rfl HO9 rfl info1RM ?_ hone9 rfl ?_; (· show 1 + 1 ≤ 3; decide); (clear HO9; intro w9 HO9)))
           have HOn := (fq_push1 (k := k) (b := s1.2) (by rw [← hn0.out]; exact HO9)).sub (.cons _ (List.Sublist.refl _))
           have hb3 : Hid (s1.2 = 0 → m + 2 ≤ fu + q ∧ q ≤ m ∧ FLen { k with v1 := u9, ms := k.ms ++ [y], mss := k.mss ++ [cs] } q) := Yq (fun e => by
            obtain ⟨h1, h2⟩ := hen e
            rw [HM.out] at h2
            exact ⟨by omega, h2, { hlen.out.mono (show j ≤ q by omega) with l1 := by have := hlen.out.l1; simp only [List.length_append, List.length_cons, List.length_nil]; omega }⟩)
           clear hen HO9
           by_cases hs1 : s1.2 = 0
           ·have e1 : w9.cell? ⟨gS, 1, none⟩ = some (.int .i64 0) := ((HOn.own.at 0 rfl).cell (o := 1) rfl).trans (by rw [show ((s1.2 : Nat) : Int) = 0 by omega])
            obtain ⟨h1, h2, h3⟩ := hb3.out hs1
            have HO2 := Yq (HOn.read (RD' := FRd 0 ({ k with v1 := u9, ms := k.ms ++ [y], mss := k.mss ++ [cs] } : FW)) (FRd.mono _ _) (fun q _ => q hs1))
            clear HOn
            go_wp2_with fail
            go_roundg fu
            case measure => omega
            case rel => exact ⟨{ k with v1 := u9, ms := k.ms ++ [y], mss := k.mss ++ [cs] }, q, s1, by go_num, hs1, HO2, HRn, h1, h2, Yq h3⟩
           ·obtain ⟨z, hz⟩ : ∃ z, z = (s1.2 : Int) := ⟨_, rfl⟩
            have e1 : w9.cell? ⟨gS, 1, none⟩ = some (.int .i64 z) := ((HOn.own.at 0 rfl).cell (o := 1) rfl).trans (by rw [hz])
            have q1 : (z == 0) = false := by rw [beq_eq_false_iff_ne]; omega
            have HRe : Hid (R.2 = s1) := Yq (Sy.FilL.bad HRn.out hs1)
            have hnz : R.2.2 ≠ 0 := by rw [HRe.out]; exact hs1
            have hone := fw_ones HOn
            clear HRn hz hb3 HR
            go_upto_region 30 with fail
            refine wp_ret4 (by kernel_rfl) (by kernel_rfl) rfl (fun _ _ _ _ _ h => h) HOn.own 1 0 3 2 rfl rfl rfl rfl (by decide) (by decide) (by decide) rfl (by kernel_rfl) rfl (by kernel_rfl) rfl rfl (by kernel_rfl) (by kernel_rfl) rfl rfl (by kernel_rfl) (by kernel_rfl) Tryz.underlying34 rfl infoRFl rfl hone Tryz.underlying100 rfl infoStp rfl (one_stC _) ?_
            intro w10 HO10
            go_wp2_with fail
            refine bodyPost_ret (v := .tuple #[.agg (({ k with v1 := u9, ms := k.ms ++ [y], mss := k.mss ++ [cs] } : FW).cells).toArray, .agg (stC R.2).toArray]) ?_ rfl ⟨({ k with v1 := u9, ms := k.ms ++ [y], mss := k.mss ++ [cs] } : FW).cells, rfl, rfl, hone, (fun e => absurd e hnz), HO10.below⟩
            exact results_cc rfl (by kernel_rfl) (by kernel_rfl) (run_load_blk (HO10.at 3 rfl) _ Tryz.underlying34 rfl infoRFl) (by rw [HRe.out]; exact run_load_blk (HO10.at 2 rfl) _ Tryz.underlying100 rfl infoStp)
         ·rw [h4] at HI4
          have HRn := Yq (Sy.FilL.semi HR.out hs0 (by rw [HM.out]; omega) h4)
          go_upto_region 29 with (first
           | (go_at_call 59; (refine (HI4.out _ HO.below).mono ?_); rintro e w3 ⟨rfl, rfl⟩)
           | fail)
          have HOn := HO.read (RD' := FRd s.2 k) (FRd.mono _ _) (fun q _ => q rfl)
          have hs1 := hs0
          have hb3 : Hid (s.2 = 0 → m + 2 ≤ fu + (j + 1) ∧ j + 1 ≤ m ∧ FLen k (j + 1)) := Yq (fun e => ⟨by omega, by omega, hlen.out.mono (by omega)⟩)
          have e1 : w3.cell? ⟨gS, 1, none⟩ = some (.int .i64 0) := ((HOn.own.at 0 rfl).cell (o := 1) rfl).trans (by rw [show ((s.2 : Nat) : Int) = 0 by omega])
          obtain ⟨h1, h2, h3⟩ := hb3.out hs1
          have HO2 := Yq (HOn.read (RD' := FRd 0 (k : FW)) (FRd.mono _ _) (fun q _ => q hs1))
          clear HOn
          go_wp2_with fail
          go_roundg fu
          case measure => omega
          case rel => exact ⟨k, (j + 1), s, by go_num, hs1, HO2, HRn, h1, h2, Yq h3⟩
        ·have q9 : decide ((j : Int) < (m : Int)) = false := decide_eq_false (by omega)
         have HRe : Hid (R = (k.fil, Sy.none0)) := Yq (Sy.FilL.end HR.out hs0 (by rw [HM.out]; omega))
         have HRe2 : Hid (R.2 = Sy.none0) := Yq (by rw [HRe.out])
         have hone := fw_ones HO
         clear HR
         go_wp2_with (first
        | ((with_reducible refine atOp (.load 34 _) ?_); (refine wpList_load_ownR 1 rfl 34 _ rfl _ rfl HO rfl _ Tryz.underlying34 rfl infoRFl ?_))
        | ((with_reducible refine atOp (.store 34 _ _) ?_); (refine wpList_store_ownR 3 rfl 34 _ _ rfl _ 0 (k.cells) rfl rfl HO rfl infoRFl (Nat.le_refl _) (hone) (patch_whole' _ _ rfl) ?_; clear HO; intro w8 HO))
        | ((with_reducible refine atOp (.store 100 _ _) ?_); (refine wpList_store_ownR 2 rfl 100 _ _ rfl _ 0 (stC Sy.none0) rfl rfl HO rfl infoStp (Nat.le_refl _) (one_stC _) (patch_whole' _ _ rfl) ?_; clear HO; intro w9 HO))
        | fail)
         refine bodyPost_ret (v := .tuple #[.agg (k.cells).toArray, .agg (stC R.2).toArray]) ?_ rfl ⟨k.cells, rfl, rfl, hone, (fun _ => by rw [HRe.out]; exact fq_read HO hlen.out (by omega)), HO.below⟩
         exact results_cc rfl (by kernel_rfl) (by kernel_rfl) (run_load_blk (HO.own.at 3 rfl) _ Tryz.underlying34 rfl infoRFl) (by rw [HRe2.out]; exact run_load_blk (HO.own.at 2 rfl) _ Tryz.underlying100 rfl infoStp)
     ·obtain ⟨z, hz⟩ : ∃ z, z = (s1.2 : Int) := ⟨_, rfl⟩
      have e1 : w6.cell? ⟨_, 1, none⟩ = some (.int .i64 z) := ((HO.own.at 0 rfl).cell (o := 1) rfl).trans (by rw [hz])
      have q1 : (z == 0) = false := by rw [beq_eq_false_iff_ne]; omega
      have HRe : Hid (R.2 = s1) := Yq (by rw [HR.out]; exact Sy.file_bad (HHD.out.symm.trans (Hh1.out.trans (if_pos (by simpa using h0)))) h0)
      have hnz : R.2.2 ≠ 0 := by rw [HRe.out]; exact h0
      clear HR HHD hz
      go_upto_region 9 with fail
      refine wp_ret4 (by kernel_rfl) (by kernel_rfl) rfl (fun _ _ _ _ _ h => h) HO.own 1 0 3 2 rfl rfl rfl rfl (by decide) (by decide) (by decide) rfl (by kernel_rfl) rfl (by kernel_rfl) rfl rfl (by kernel_rfl) (by kernel_rfl) rfl rfl (by kernel_rfl) (by kernel_rfl) Tryz.underlying34 rfl infoRFl rfl (one_fw0 []) Tryz.underlying100 rfl infoStp rfl (one_stC _) ?_
      intro w9 HO9
      go_wp2_with fail
      refine bodyPost_ret (v := .tuple #[.agg ([.string (toB []), .slice none 0 0, .slice none 0 0]).toArray, .agg (stC R.2).toArray]) ?_ rfl ⟨[.string (toB []), .slice none 0 0, .slice none 0 0], rfl, rfl, (one_fw0 []), (fun e => absurd e hnz), HO9.below⟩
      exact results_cc rfl (by kernel_rfl) (by kernel_rfl) (run_load_blk (HO9.at 3 rfl) _ Tryz.underlying34 rfl infoRFl) (by rw [HRe.out]; exact run_load_blk (HO9.at 2 rfl) _ Tryz.underlying100 rfl infoStp)
    ·have t5 : ((toB xw.text).toList == [112, 114, 111, 116, 111, 51]) = false := (toB_lit _ _).trans (decide_eq_false hx)
     have Hh1 := Yq (Hh0.out.trans (if_neg (by rw [ht, decide_eq_false hx]; simp)))
     replace hx := Yq hx
     clear Hh0 ht
     have HRe : Hid (R.2 = Sy.bad j0) := Yq (by rw [HR.out]; exact Sy.file_bad (HHD.out.symm.trans (Hh1.out)) (by simp [Sy.bad]))
     have hnz : R.2.2 ≠ 0 := by rw [HRe.out]; simp [Sy.bad]
     clear HR HHD
     go_upto_region 6 with fail
     refine wp_ret5 (by kernel_rfl) (by kernel_rfl) rfl (fun _ _ _ _ _ h => h) HO.own (.int .i64 (j0)) 1 3 2 rfl rfl rfl (by decide) (by decide) rfl (by kernel_rfl) (.inl rfl) (by kernel_rfl) rfl (fun _ => by kernel_rfl) (bad_any j0) rfl rfl (by kernel_rfl) (by kernel_rfl) rfl rfl (by kernel_rfl) (by kernel_rfl) Tryz.underlying34 rfl infoRFl rfl (one_fw0 []) infoStp rfl (one_stC _) ?_
     intro w9 HO9
     go_wp2_with fail
     refine bodyPost_ret (v := .tuple #[.agg ([.string (toB []), .slice none 0 0, .slice none 0 0]).toArray, .agg (stC R.2).toArray]) ?_ rfl ⟨[.string (toB []), .slice none 0 0, .slice none 0 0], rfl, rfl, (one_fw0 []), (fun e => absurd e hnz), HO9.below⟩
     exact results_cc rfl (by kernel_rfl) (by kernel_rfl) (run_load_blk (HO9.at 3 rfl) _ Tryz.underlying34 rfl infoRFl) (by rw [HRe.out]; exact run_load_blk (HO9.at 2 rfl) _ Tryz.underlying100 rfl infoStp)
   ·have q6 : ((xw.kind : Int) == 3) = false := by rw [beq_eq_false_iff_ne]; omega
    have q6b : ¬ ((xw.kind : Int) = 3) := by omega
    have Hh1 := Yq (Hh0.out.trans (if_neg (by rw [ht, decide_eq_false hk]; simp)))
    replace hk := Yq hk
    clear Hh0 ht
    have HRe : Hid (R.2 = Sy.bad j0) := Yq (by rw [HR.out]; exact Sy.file_bad (HHD.out.symm.trans (Hh1.out)) (by simp [Sy.bad]))
    have hnz : R.2.2 ≠ 0 := by rw [HRe.out]; simp [Sy.bad]
    clear HR HHD
    go_upto_region 6 with fail
    refine wp_ret5 (by kernel_rfl) (by kernel_rfl) rfl (fun _ _ _ _ _ h => h) HO.own (.int .i64 (j0)) 1 3 2 rfl rfl rfl (by decide) (by decide) rfl (by kernel_rfl) (.inl rfl) (by kernel_rfl) rfl (fun _ => by kernel_rfl) (bad_any j0) rfl rfl (by kernel_rfl) (by kernel_rfl) rfl rfl (by kernel_rfl) (by kernel_rfl) Tryz.underlying34 rfl infoRFl rfl (one_fw0 []) infoStp rfl (one_stC _) ?_
    intro w9 HO9
    go_wp2_with fail
    refine bodyPost_ret (v := .tuple #[.agg ([.string (toB []), .slice none 0 0, .slice none 0 0]).toArray, .agg (stC R.2).toArray]) ?_ rfl ⟨[.string (toB []), .slice none 0 0, .slice none 0 0], rfl, rfl, (one_fw0 []), (fun e => absurd e hnz), HO9.below⟩
    exact results_cc rfl (by kernel_rfl) (by kernel_rfl) (run_load_blk (HO9.at 3 rfl) _ Tryz.underlying34 rfl infoRFl) (by rw [HRe.out]; exact run_load_blk (HO9.at 2 rfl) _ Tryz.underlying100 rfl infoStp)
 ·obtain ⟨z, hz⟩ : ∃ z, z = (s0.2 : Int) := ⟨_, rfl⟩
  have e1 : w6.cell? ⟨_, 1, none⟩ = some (.int .i64 z) := ((HO.own.at 0 rfl).cell (o := 1) rfl).trans (by rw [hz])
  have q1 : (z == 0) = false := by rw [beq_eq_false_iff_ne]; omega
  have HRe : Hid (R.2 = s0) := Yq (by rw [HR.out]; exact Sy.file_bad (HHD.out.symm.trans (Hhd.out.trans (if_pos (by simpa using h0)))) h0)
  have hnz : R.2.2 ≠ 0 := by rw [HRe.out]; exact h0
  clear HR HHD hz
  go_upto_region 4 with fail
  refine wp_ret4 (by kernel_rfl) (by kernel_rfl) rfl (fun _ _ _ _ _ h => h) HO.own 1 0 3 2 rfl rfl rfl rfl (by decide) (by decide) (by decide) rfl (by kernel_rfl) rfl (by kernel_rfl) rfl rfl (by kernel_rfl) (by kernel_rfl) rfl rfl (by kernel_rfl) (by kernel_rfl) Tryz.underlying34 rfl infoRFl rfl (one_fw0 []) Tryz.underlying100 rfl infoStp rfl (one_stC _) ?_
  intro w9 HO9
  go_wp2_with fail
  refine bodyPost_ret (v := .tuple #[.agg ([.string (toB []), .slice none 0 0, .slice none 0 0]).toArray, .agg (stC R.2).toArray]) ?_ rfl ⟨[.string (toB []), .slice none 0 0, .slice none 0 0], rfl, rfl, (one_fw0 []), (fun e => absurd e hnz), HO9.below⟩
  exact results_cc rfl (by kernel_rfl) (by kernel_rfl) (run_load_blk (HO9.at 3 rfl) _ Tryz.underlying34 rfl infoRFl) (by rw [HRe.out]; exact run_load_blk (HO9.at 2 rfl) _ Tryz.underlying100 rfl infoStp)
end Go.Proofs.YtpcfdngnmigkfaaGreatDoor
