/- invert.swap, walked. -/
import Derived.Test.YtkldcjlkeblggaaDoorGroupC
import Derived.Test.YtkldcjlkeblggaaDoorDDo

namespace Go.Proofs.YtkldcjlkeblggaaDoor
open Go.RowKit
open Val (V E)
set_option linter.unusedVariables false

/-- an edit returned, in memory that lies outside of E -/
def RetF (E : List (Option Nat)) (w : World) (x : Val.E) (e : Ending) (w' : World) : Prop := ∃ xc, e = .returned (.agg xc.toArray) ∧ ER (fragE w' E) x xc ∧ Below w.heap.size w w'

theorem ER.swapped {h : Frag} {k : Int} {o n : V} {f r ro rn s ks} {oc nc : List Value} {fv sv kv : Value} {fe se ke : List (List Value)} (h2 : ro.size ≤ maxLen ∧ rn.size ≤ maxLen) (h3 : VR h o oc ∧ VR h n nc)
    (h4 : FlatC 22 h fv fe ∧ FlatC 30 h sv se ∧ FlatC 28 h kv ke) (h5 : EFs h f fe ∧ ESs h s se ∧ EKs h ks ke) :
    ER h (.mk k n o f r ro rn s ks) (.int .i64 k :: (nc ++ (oc ++ [fv, .bool r, .string ro, .string rn, sv, kv]))) := by
  rw [ER]
  exact ⟨nc, oc, fv, sv, kv, fe, se, ke, rfl, h2, ⟨h3.2, h3.1⟩, h4, h5⟩

set_option maxRecDepth 100000 in
set_option maxHeartbeats 1000000 in
theorem iswap_any (F : List (Option Nat)) (x : E) (xc : List Value) (w : World) (hk : x.kind = 1) (hx : ER (fragE w F) x xc) :
    Calls Tryd.prog 18 #[.agg xc.toArray] w (RetF F w (Val.inv x)) := by
  obtain ⟨k, o, n, f, r, ro, rn, s, ks⟩ := x
  have hk' : k = 1 := hk
  subst hk'
  have hone := hx.shape.one
  have hlen := hx.shape.len
  rw [ER] at hx
  obtain ⟨oc, nc, fv, sv, kv, fe, se, ke, hxc, h2, h3, h4, h5⟩ := hx
  have hyc : ER (fragE w F) (.mk 1 n o f r ro rn s ks) (.int .i64 1 :: (nc ++ (oc ++ [fv, .bool r, .string ro, .string rn, sv, kv]))) := ER.swapped h2 h3 h4 h5
  have HLo := Lib.hid h3.1.len
  have HLn := Lib.hid h3.2.len
  have HOo := Lib.hid h3.1.shape.one
  have HOn := Lib.hid h3.2.shape.one
  have Hlen := Lib.hid hlen
  have HA := Lib.hid (fun (w2 : World) (g : Nat) (hB : Blk w2 g xc) => And.intro (hB.range (p := [.int .i64 1]) (q := oc) hxc rfl) (hB.range (p := .int .i64 1 :: oc) (q := nc) hxc (o := 8) (by simp [h3.1.len])))
  have HP : Hid (patch (patch xc 1 nc) 8 oc = .int .i64 1 :: (nc ++ (oc ++ [fv, .bool r, .string ro, .string rn, sv, kv]))) := by
    show patch (patch xc 1 nc) 8 oc = _
    rw [hxc, patch_old h3.1.len h3.2.len, patch_new h3.2.len h3.2.len h3.1.len]
  have HP1 : Hid ((patch xc 1 nc).length = 21) := by
    show (patch xc 1 nc).length = 21
    rw [patch_len (by rw [hlen, h3.2.len]; decide), hlen]
  generalize hyq : Value.int .i64 1 :: (nc ++ (oc ++ [fv, .bool r, .string ro, .string rn, sv, kv])) = yc at hyc HP
  have HYl := Lib.hid hyc.shape.len
  have HYo := Lib.hid hyc.shape.one
  have HE : Val.inv (.mk 1 o n f r ro rn s ks) = .mk 1 n o f r ro rn s ks := by rw [Val.inv]; simp
  rw [HE]
  have HY := Lib.hid hyc
  clear hyq hyc hxc h2 h3 h4 h5 hone hlen hk HE
  go_enter Tryd.func18, Tryd.ntmps18
  go_wp2_with (first
    | (refine wpList_box_lay rfl 32 _ rfl _ rfl ?_; (intro w0 g0 hg0 hB0 hb0))
    | (refine wpList_alloc_lay rfl 32 rfl zE zeroE ?_; (intro w2 g2 hg2 hB2 hb2; have hne : Hid (g0 ≠ g2) := fun e => absurd hB0.lt (by rw [e]; exact Nat.not_lt.2 hg2); replace hB0 := hB0.below hb2 hB0.lt; replace hg2 := Nat.le_trans hb0.size hg2; replace hb0 := hb0.trans (hb2.mono hb0.size); clear hb2; obtain ⟨r1, r8⟩ := HA.out _ _ hB0))
    | (refine wpList_load_seg rfl 27 _ rfl _ _ rfl _ _ (by assumption) Tryd.underlying27 rfl ?_ ?_; (· first | exact infoV.trans (congrArg some HLo.out.symm) | exact infoV.trans (congrArg some HLn.out.symm)))
    | (refine wpList_load_seg rfl 32 _ rfl _ _ rfl _ _ r9 Tryd.underlying32 rfl ?_ ?_; (· exact infoE.trans (congrArg some HYl.out.symm)))
    | (refine wpList_store_blk rfl 27 _ _ rfl g0 1 nc rfl rfl xc hB0 ?_ ?_ HOn.out ?_; (· exact infoV.trans (congrArg some HLn.out.symm)); (· rw [HLn.out, Hlen.out]; decide); (intro w3 hB3 hgr hsz; replace hB2 := hB2.grown hgr (by have := hB0.lt; have := hne.out; intro e; cases e; omega); replace hb0 := Below.grown hb0 hgr hb0.size (fun _ e => by cases e; exact hg0); clear hgr hsz hB0 r1 r8))
    | (refine wpList_store_blk rfl 27 _ _ rfl g0 8 oc rfl rfl (patch xc 1 nc) hB3 ?_ ?_ HOo.out ?_; (· exact infoV.trans (congrArg some HLo.out.symm)); (· rw [HLo.out, HP1.out]; decide); (intro w4 hB4 hgr hsz; replace hB2 := hB2.grown hgr (by have := hne.out; intro e; cases e; omega); replace hb0 := Below.grown hb0 hgr hb0.size (fun _ e => by cases e; exact hg0); clear hgr hsz hB3; rw [HP.out] at hB4; have r9 := hB4.whole))
    | (refine wpList_store_all rfl 32 _ _ rfl g2 yc rfl rfl zE hB2 ?_ ?_ HYo.out ?_; (· exact infoE.trans (congrArg some HYl.out.symm)); (· exact HYl.out); (intro w5 hB5 hgr; replace hb0 := Below.grown hb0 hgr hb0.size (fun _ e => by cases e; exact hg2); clear hgr r9)))
  refine bodyPost_ret (v := .agg yc.toArray) ?_ rfl ⟨yc, rfl, HY.out.mono (belowE hb0 (fun _ h => .inl h)), hb0⟩
  exact results_blk rfl _ _ g2 yc rfl hB5 _ Tryd.underlying32 rfl (infoE.trans (congrArg some HYl.out.symm))

end Go.Proofs.YtkldcjlkeblggaaDoor

/- invert.row, walked; what is asked of invert.Steps. -/
namespace Go.Proofs.YtkldcjlkeblggaaDoor
open Go.RowKit
open Val (V E)
set_option linter.unusedVariables false

theorem infoSs : (Tryd.prog.info? 29).map (·.size) = some 1 := by kernel_rfl
/-- steps returned, in memory that lies outside of F -/
def RetS (F : List (Option Nat)) (w : World) (l : List Val.St) (e : Ending) (w' : World) : Prop := ∃ a n cap es, e = .returned (.slice a n cap) ∧ FlatC 30 (fragE w' F) (.slice a n cap) es ∧ ESs (fragE w' F) l es ∧ Below w.heap.size w w'
def StepsAt (N : Nat) : Prop := ∀ (F : List (Option Nat)) (l : List Val.St) (v : Value) (es : List (List Value)) (w : World), (∀ k, some k ∈ F → k < w.heap.size) → (∀ s ∈ l, SizeOf.sizeOf s.2.2.2 < N) → Val.esteps 0 false l = true → Val.eszS l ≤ 90000 →
  FlatC 30 (fragE w F) v es → ESs (fragE w F) l es → Calls Tryd.prog 45 #[v] w (RetS F w (Val.tidy (Val.invS l)))

set_option maxRecDepth 100000 in
set_option maxHeartbeats 1000000 in
theorem irow_any (N : Nat) (ih : StepsAt N) (F : List (Option Nat)) (x : E) (xc : List Value) (w : World) (hF : ∀ k, some k ∈ F → k < w.heap.size) (hs : ∀ s ∈ x.steps, SizeOf.sizeOf s.2.2.2 < N) (hr : Val.esteps 0 false x.steps = true) (hz : Val.eszS x.steps ≤ 90000) (hk : x.kind = 3) (hx : ER (fragE w F) x xc) :
    Calls Tryd.prog 20 #[.agg xc.toArray] w (RetF F w (Val.inv x)) := by
  obtain ⟨k, o, n, f, r, ro, rn, s, ks⟩ := x
  have hk' : k = 3 := hk
  subst hk'
  simp only [Val.E.steps] at hs hr hz
  rw [ER] at hx
  obtain ⟨oc, nc, fv, sv, kv, fe, se, ke, hxc, h2, h3, h4, h5⟩ := hx
  have HE : Val.inv (.mk 3 o n f r ro rn s ks) = .mk 3 o n f r ro rn (Val.tidy (Val.invS s)) ks := by rw [Val.inv]; simp
  rw [HE]
  have HC : Hid (∀ (W : World) (g0 g2 : Nat), Below w.heap.size w W → w.heap.size ≤ g0 → w.heap.size ≤ g2 → g0 < W.heap.size → g2 < W.heap.size → Calls Tryd.prog 45 #[sv] W (RetS (some g0 :: some g2 :: F) W (Val.tidy (Val.invS s)))) := fun W g0 g2 hb l0 l2 u0 u2 => by
    have hle : FLe (fragE w F) (fragE W (some g0 :: some g2 :: F)) := belowE hb (fun k hk => by
      simp only [List.mem_cons, Option.some.injEq] at hk
      rcases hk with hk | hk | hk
      · right; omega
      · right; omega
      · exact .inl hk)
    refine ih _ s sv se W (fun k hk => ?_) hs hr hz (h4.2.1.mono hle) (ESs.mono hle h5.2.1)
    simp only [List.mem_cons, Option.some.injEq] at hk
    rcases hk with hk | hk | hk
    · omega
    · omega
    · exact Nat.lt_of_lt_of_le (hF k hk) hb.size
  obtain ⟨a2, c2, hsv, _⟩ := h4.2.1.len
  subst hsv
  have hC : Cells21 xc (.int .i64 3) oc nc fv (.bool r) (.string ro) (.string rn) (.slice a2 se.length c2) kv := ⟨hxc, h3.1.len, h3.2.len⟩
  have HA := Lib.hid (fun (w2 : World) (g : Nat) (hB : Blk w2 g xc) => hB.cell (hC.tl 4))
  have HP := Lib.hid (fun (v : Value) => (show patch xc 19 [v] = .int .i64 3 :: (oc ++ (nc ++ [fv, .bool r, .string ro, .string rn, v, kv])) by
    rw [hxc, show (19 : Nat) = 15 + 4 from rfl, patch_tail h3.1.len h3.2.len]; rfl))
  have HR := Lib.hid (fun (w' : World) (g0 g2 : Nat) (v : Value) (es : List (List Value)) (hb : Below w.heap.size w w') (hv : FlatC 30 (fragE w' (some g0 :: some g2 :: F)) v es) (hes : ESs (fragE w' (some g0 :: some g2 :: F)) (Val.tidy (Val.invS s)) es) =>
    (show ER (fragE w' F) (.mk 3 o n f r ro rn (Val.tidy (Val.invS s)) ks) (patch xc 19 [v]) by
      have hle : FLe (fragE w F) (fragE w' F) := belowE hb (fun k hk => .inl hk)
      have hle2 : FLe (fragE w' (some g0 :: some g2 :: F)) (fragE w' F) := belowE (Below.refl _ _) (fun k hk => .inl (by simp [hk]))
      rw [HP.out, ER]
      exact ⟨oc, nc, fv, v, kv, fe, es, ke, rfl, h2, ⟨h3.1.mono hle, h3.2.mono hle⟩, ⟨h4.1.mono hle, hv.mono hle2, h4.2.2.mono hle⟩, EFs.mono hle h5.1, ESs.mono hle2 hes, EKs.mono hle h5.2.2⟩))
  have Hlen := Lib.hid hC.len
  clear hC HP h2 h3 h4 h5 hk HE hxc
  go_enter Tryd.func20, Tryd.ntmps20
  go_wp2_with (first
    | (refine wpList_box_lay rfl 32 _ rfl _ rfl ?_; (intro w0 g0 hg0 hB0 hb0))
    | (refine wpList_alloc_lay rfl 32 rfl zE zeroE ?_; (intro w2 g2 hg2 hB2 hb2; have hne : Hid (g0 < g2) := Nat.lt_of_lt_of_le hB0.lt hg2; replace hB0 := hB0.below hb2 hB0.lt; replace hg2 := Nat.le_trans hb0.size hg2; replace hb0 := hb0.trans (hb2.mono hb0.size); clear hb2; have r19 := HA.out _ _ hB0))
    | (go_at_call 45; (with_reducible refine (HC.out _ g0 g2 hb0 hg0 hg2 hB0.lt hB2.lt).mono ?_); rintro e w3 ⟨a5, n5, c5, es5, rfl, hv5, hs5, hb3⟩; replace hB2 := hB2.below hb3 hB2.lt; replace hB0 := hB0.below hb3 hB0.lt; replace hb0 := hb0.trans (hb3.mono hb0.size); have HV5 := Lib.hid hv5; have HS5 := Lib.hid hs5; clear r19 hb3 hv5 hs5)
    | (refine wpList_store_blk1 rfl 29 _ _ rfl g0 19 (.slice a5 n5 c5) rfl rfl xc hB0 infoSs ?_ rfl ?_; (· rw [Hlen.out]; decide); (intro w4 hB4 hgr hsz; replace hB2 := hB2.grown hgr (by have := hne.out; intro e; cases e; omega); replace HV5 := Lib.hid (HV5.out.mono (grownE hgr (.inr (by simp)) (fun k hk => .inl hk))); replace HS5 := Lib.hid (ESs.mono (grownE hgr (.inr (by simp)) (fun k hk => .inl hk)) HS5.out); replace hb0 := Below.grown hb0 hgr hb0.size (fun _ e => by cases e; exact hg0); have HY := HR.out w4 g0 g2 _ _ hb0 HV5.out HS5.out; have HYl := Lib.hid HY.shape.len; have HYo := Lib.hid HY.shape.one; have HZ := Lib.hid (And.intro HV5.out HS5.out); clear hgr hsz hB0 HY; generalize hyc : patch xc 19 [Value.slice a5 n5 c5] = yc at hB4 HYl HYo; have Hyc := Lib.hid hyc; clear hyc; have r9 := hB4.whole))
    | (refine wpList_load_seg rfl 32 _ rfl _ _ rfl _ _ r9 Tryd.underlying32 rfl ?_ ?_; (· exact infoE.trans (congrArg some HYl.out.symm)))
    | (refine wpList_store_all rfl 32 _ _ rfl g2 yc rfl rfl zE hB2 ?_ ?_ HYo.out ?_; (· exact infoE.trans (congrArg some HYl.out.symm)); (· exact HYl.out); (intro w5 hB5 hgr; replace HZ := Lib.hid (And.intro (HZ.out.1.mono (grownE hgr (.inr (by simp)) (fun k hk => .inl hk))) (ESs.mono (grownE hgr (.inr (by simp)) (fun k hk => .inl hk)) HZ.out.2)); replace hb0 := Below.grown hb0 hgr hb0.size (fun _ e => by cases e; exact hg2); clear hgr r9)))
  refine bodyPost_ret (v := .agg yc.toArray) ?_ rfl ⟨yc, rfl, ?_, hb0⟩
  · exact results_blk rfl _ _ g2 yc rfl hB5 _ Tryd.underlying32 rfl (infoE.trans (congrArg some HYl.out.symm))
  · rw [← Hyc.out]; exact HR.out w5 g0 g2 _ _ hb0 HZ.out.1 HZ.out.2

end Go.Proofs.YtkldcjlkeblggaaDoor

/- invert.step, walked; what is asked of invert.Of. -/
namespace Go.Proofs.YtkldcjlkeblggaaDoor
open Go.RowKit
open Val (V E)
set_option linter.unusedVariables false

/-- what is asked of an edit's other way -/
def OfAt (N : Nat) : Prop := ∀ (F : List (Option Nat)) (x : E) (xc : List Value) (w : World), (∀ k, some k ∈ F → k < w.heap.size) → SizeOf.sizeOf x < N → Val.eright x = true → Val.esz x ≤ 90000 →
  ER (fragE w F) x xc → Calls Tryd.prog 10 #[.agg xc.toArray] w (RetF F w (Val.inv x))
/-- one step's other way -/
def Val.invOne (s : Val.St) : Val.St := if s.1 = 2 then (3, s.2.1, s.2.2.1, s.2.2.2) else if s.1 = 3 then (2, s.2.1, s.2.2.1, s.2.2.2) else if s.1 = 4 then (4, s.2.1, s.2.2.1, Val.inv s.2.2.2) else s
theorem Val.invS_one (s : Val.St) (r : List Val.St) : Val.invS (s :: r) = Val.invOne s :: Val.invS r := by
  obtain ⟨k, c, v, e⟩ := s
  rw [Val.invS]; rfl
/-- a step's thirty cells -/
def StR (h : Frag) (s : Val.St) (cs : List Value) : Prop := ∃ vc xc, cs = .int .i64 s.1 :: .int .i64 s.2.1 :: (vc ++ xc) ∧ VR h s.2.2.1 vc ∧ ER h s.2.2.2 xc
theorem StR.mono {h h' : Frag} {s : Val.St} {cs : List Value} (hle : FLe h h') (hs : StR h s cs) : StR h' s cs := by
  obtain ⟨vc, xc, h1, h2, h3⟩ := hs
  exact ⟨vc, xc, h1, h2.mono hle, ER.mono hle h3⟩
theorem StR.len {h : Frag} {s : Val.St} {cs : List Value} (hs : StR h s cs) : cs.length = 30 := by
  obtain ⟨vc, xc, rfl, h2, h3⟩ := hs
  simp [h2.len, h3.shape.len]
theorem StR.one {h : Frag} {s : Val.St} {cs : List Value} (hs : StR h s cs) : ∀ u ∈ cs, u.oneCell' = true := by
  obtain ⟨vc, xc, rfl, h2, h3⟩ := hs
  intro u hu
  simp only [List.mem_cons, List.mem_append] at hu
  rcases hu with rfl | rfl | hu | hu
  · rfl
  · rfl
  · exact h2.shape.one u hu
  · exact h3.shape.one u hu
theorem ESs.cons_iff {h : Frag} {s : Val.St} {r : List Val.St} {es : List (List Value)} : ESs h (s :: r) es ↔ ∃ cs er, es = cs :: er ∧ StR h s cs ∧ ESs h r er := by
  obtain ⟨k, c, v, x⟩ := s
  rw [ESs]
  constructor
  · rintro ⟨vc, xc, er, rfl, h1, h2, h3⟩
    exact ⟨_, er, rfl, ⟨vc, xc, rfl, h1, h2⟩, h3⟩
  · rintro ⟨cs, er, rfl, ⟨vc, xc, rfl, h1, h2⟩, h3⟩
    exact ⟨vc, xc, er, rfl, h1, h2, h3⟩
theorem ESs.append {h : Frag} : ∀ {l m : List Val.St} {es fs : List (List Value)}, ESs h l es → ESs h m fs → ESs h (l ++ m) (es ++ fs)
  | [], m, es, fs, h1, h2 => by rw [ESs] at h1; subst h1; exact h2
  | s :: r, m, es, fs, h1, h2 => by
    obtain ⟨cs, er, rfl, h3, h4⟩ := ESs.cons_iff.1 h1
    exact ESs.cons_iff.2 ⟨cs, er ++ fs, rfl, h3, ESs.append h4 h2⟩
theorem ESs.single {h : Frag} {s : Val.St} {cs : List Value} (hs : StR h s cs) : ESs h [s] [cs] := ESs.cons_iff.2 ⟨cs, [], rfl, hs, by rw [ESs]⟩
/-- a step returned -/
def RetSt (F : List (Option Nat)) (w : World) (s : Val.St) (e : Ending) (w' : World) : Prop := ∃ cs, e = .returned (.agg cs.toArray) ∧ StR (fragE w' F) s cs ∧ Below w.heap.size w w'

theorem step_flip {h : Frag} {k k' : Int} {c : Int} {v : V} {x : E} {cs : List Value} (hs : StR h (k, c, v, x) cs) : StR h (k', c, v, x) (patch cs 0 [.int .i64 k']) := by
  obtain ⟨vc, xc, rfl, h2, h3⟩ := hs
  exact ⟨vc, xc, by simp [patch], h2, h3⟩

set_option maxRecDepth 100000 in
set_option maxHeartbeats 1000000 in
theorem istep_flip (k k' : Int) (hkk : (k = 2 ∧ k' = 3) ∨ (k = 3 ∧ k' = 2)) (F : List (Option Nat)) (c : Int) (v : V) (x : E) (sc : List Value) (w : World) (hx : StR (fragE w F) (k, c, v, x) sc) :
    Calls Tryd.prog 61 #[.agg sc.toArray] w (RetSt F w (k', c, v, x)) := by
  have Hlen := Lib.hid hx.len
  have H0 := Lib.hid (fun (w2 : World) (g : Nat) (hB : Blk w2 g sc) => (show w2.cell? ⟨g, 0, none⟩ = some (.int .i64 k) from hB.cell (by obtain ⟨vc, xc, rfl, _⟩ := hx; rfl)))
  have hy := step_flip (k' := k') hx
  obtain ⟨yc, hyc⟩ : ∃ yc, patch sc 0 [.int .i64 k'] = yc := ⟨_, rfl⟩
  rw [hyc] at hy
  have Hyc := Lib.hid hyc
  have HYl := Lib.hid hy.len; have HYo := Lib.hid hy.one; have HYY := Lib.hid hy
  clear hx hy hyc
  rcases hkk with ⟨rfl, rfl⟩ | ⟨rfl, rfl⟩
  all_goals
    go_enter Tryd.func61, Tryd.ntmps61
    go_wp2_with (first
      | (refine wpList_box_lay rfl 55 _ rfl _ rfl ?_; (intro w0 g0 hg0 hB0 hb0))
      | (refine wpList_alloc_lay rfl 55 rfl zES zeroES ?_; (intro w2 g2 hg2 hB2 hb2; have hne : Hid (g0 < g2) := Nat.lt_of_lt_of_le hB0.lt hg2; replace hB0 := hB0.below hb2 hB0.lt; replace hg2 := Nat.le_trans hb0.size hg2; replace hb0 := hb0.trans (hb2.mono hb0.size); clear hb2; have r0 := H0.out _ _ hB0))
      | (refine wpList_store_blk1 rfl 3 _ _ rfl g0 0 _ rfl rfl sc hB0 rfl ?_ rfl ?_; (· rw [Hlen.out]; decide); (intro w4 hB4 hgr hsz; replace hB2 := hB2.grown hgr (by have := hne.out; intro e; cases e; omega); replace hb0 := Below.grown hb0 hgr hb0.size (fun _ e => by cases e; exact hg0); clear hgr hsz hB0 r0; replace hB4 : Blk w4 g0 yc := (by rw [← Hyc.out]; exact hB4); have r9 := hB4.whole))
      | (refine wpList_load_seg rfl 55 _ rfl _ _ rfl _ _ r9 Tryd.underlying55 rfl ?_ ?_; (· exact infoES.trans (congrArg some HYl.out.symm)))
      | (refine wpList_store_all rfl 55 _ _ rfl g2 yc rfl rfl zES hB2 ?_ ?_ HYo.out ?_; (· exact infoES.trans (congrArg some HYl.out.symm)); (· exact HYl.out); (intro w5 hB5 hgr; replace hb0 := Below.grown hb0 hgr hb0.size (fun _ e => by cases e; exact hg2); clear hgr r9)))
    refine bodyPost_ret (v := .agg yc.toArray) ?_ rfl ⟨yc, rfl, StR.mono (belowE hb0 (fun _ h => .inl h)) HYY.out, hb0⟩
    exact results_blk rfl _ _ g2 yc rfl hB5 _ Tryd.underlying55 rfl (infoES.trans (congrArg some HYl.out.symm))

end Go.Proofs.YtkldcjlkeblggaaDoor

/- invert.step, walked: changes and what stays. -/
namespace Go.Proofs.YtkldcjlkeblggaaDoor
open Go.RowKit
open Val (V E)
set_option linter.unusedVariables false

set_option maxRecDepth 100000 in
set_option maxHeartbeats 1000000 in
theorem istep_stay (k : Int) (h2 : ¬ k = 2) (h3 : ¬ k = 3) (h4 : ¬ k = 4) (F : List (Option Nat)) (c : Int) (v : V) (x : E) (yc : List Value) (w : World) (hx : StR (fragE w F) (k, c, v, x) yc) :
    Calls Tryd.prog 61 #[.agg yc.toArray] w (RetSt F w (k, c, v, x)) := by
  have H0 := Lib.hid (fun (w2 : World) (g : Nat) (hB : Blk w2 g yc) => (show w2.cell? ⟨g, 0, none⟩ = some (.int .i64 k) from hB.cell (by obtain ⟨vc, xc, rfl, _⟩ := hx; rfl)))
  have HYl := Lib.hid hx.len; have HYo := Lib.hid hx.one; have HYY := Lib.hid hx
  clear hx
  go_enter Tryd.func61, Tryd.ntmps61
  go_wp2_with (first
    | (refine wpList_box_lay rfl 55 _ rfl _ rfl ?_; (intro w0 g0 hg0 hB0 hb0))
    | (refine wpList_alloc_lay rfl 55 rfl zES zeroES ?_; (intro w2 g2 hg2 hB2 hb2; replace hB0 := hB0.below hb2 hB0.lt; replace hg2 := Nat.le_trans hb0.size hg2; replace hb0 := hb0.trans (hb2.mono hb0.size); clear hb2; have r0 := H0.out _ _ hB0; have r9 := hB0.whole))
    | (refine wpList_load_seg rfl 55 _ rfl _ _ rfl _ _ r9 Tryd.underlying55 rfl ?_ ?_; (· exact infoES.trans (congrArg some HYl.out.symm)))
    | (refine wpList_store_all rfl 55 _ _ rfl g2 yc rfl rfl zES hB2 ?_ ?_ HYo.out ?_; (· exact infoES.trans (congrArg some HYl.out.symm)); (· exact HYl.out); (intro w5 hB5 hgr; replace hb0 := Below.grown hb0 hgr hb0.size (fun _ e => by cases e; exact hg2); clear hgr r9)))
  refine bodyPost_ret (v := .agg yc.toArray) ?_ rfl ⟨yc, rfl, StR.mono (belowE hb0 (fun _ h => .inl h)) HYY.out, hb0⟩
  exact results_blk rfl _ _ g2 yc rfl hB5 _ Tryd.underlying55 rfl (infoES.trans (congrArg some HYl.out.symm))

theorem step_edit {h h' : Frag} {k : Int} {c : Int} {v : V} {x y : E} {cs yc : List Value} (hs : StR h (k, c, v, x) cs) (hle : FLe h h') (hy : ER h' y yc) : StR h' (k, c, v, y) (patch cs 9 yc) := by
  obtain ⟨vc, xc, rfl, h2, h3⟩ := hs
  refine ⟨vc, yc, ?_, h2.mono hle, hy⟩
  have e := patch_at (p := .int .i64 k :: .int .i64 c :: vc) (q := xc) (r := []) (vs := yc) (o := 9) (by simp [h2.len]) (by rw [h3.shape.len, hy.shape.len])
  simpa using e

set_option maxRecDepth 100000 in
set_option maxHeartbeats 1000000 in
theorem istep_change (N : Nat) (ih : OfAt N) (F : List (Option Nat)) (c : Int) (v : V) (x : E) (sc : List Value) (w : World) (hF : ∀ k, some k ∈ F → k < w.heap.size) (hs : SizeOf.sizeOf x < N) (hr : Val.eright x = true) (hz : Val.esz x ≤ 90000) (hx : StR (fragE w F) (4, c, v, x) sc) :
    Calls Tryd.prog 61 #[.agg sc.toArray] w (RetSt F w (4, c, v, Val.inv x)) := by
  have H0 := Lib.hid (fun (w2 : World) (g : Nat) (hB : Blk w2 g sc) => (show w2.cell? ⟨g, 0, none⟩ = some (.int .i64 4) from hB.cell (by obtain ⟨vc, xc, rfl, _⟩ := hx; rfl)))
  have Hlen := Lib.hid hx.len
  have HX := Lib.hid hx
  obtain ⟨vc, xc, hsc, h2, h3⟩ := hx
  simp only at hsc h2 h3
  have HC : Hid (∀ (W : World) (g0 g2 : Nat), Below w.heap.size w W → w.heap.size ≤ g0 → w.heap.size ≤ g2 → g0 < W.heap.size → g2 < W.heap.size → Calls Tryd.prog 10 #[.agg xc.toArray] W (RetF (some g0 :: some g2 :: F) W (Val.inv x))) := fun W g0 g2 hb l0 l2 u0 u2 => by
    have hle : FLe (fragE w F) (fragE W (some g0 :: some g2 :: F)) := belowE hb (fun k hk => by
      simp only [List.mem_cons, Option.some.injEq] at hk
      rcases hk with hk | hk | hk
      · right; omega
      · right; omega
      · exact .inl hk)
    refine ih _ x xc W (fun k hk => ?_) hs hr hz (h3.mono hle)
    simp only [List.mem_cons, Option.some.injEq] at hk
    rcases hk with hk | hk | hk
    · omega
    · omega
    · exact Nat.lt_of_lt_of_le (hF k hk) hb.size
  have HA := Lib.hid (fun (w2 : World) (g : Nat) (hB : Blk w2 g sc) => hB.range (p := .int .i64 4 :: .int .i64 c :: vc) (q := xc) (r := []) (o := 9) (by rw [hsc]; simp) (by simp [h2.len]))
  have HLx := Lib.hid h3.shape.len
  have HR := Lib.hid (fun (w' : World) (g0 g2 : Nat) (yc : List Value) (hb : Below w.heap.size w w') (hy : ER (fragE w' (some g0 :: some g2 :: F)) (Val.inv x) yc) =>
    (show StR (fragE w' F) (4, c, v, Val.inv x) (patch sc 9 yc) from step_edit HX.out (belowE hb (fun k hk => .inl hk)) (ER.mono (belowE (Below.refl _ _) (fun k hk => .inl (by simp [hk]))) hy)))
  clear hsc h2 h3 HX hr hs
  go_enter Tryd.func61, Tryd.ntmps61
  go_wp2_with (first
    | (refine wpList_box_lay rfl 55 _ rfl _ rfl ?_; (intro w0 g0 hg0 hB0 hb0))
    | (refine wpList_alloc_lay rfl 55 rfl zES zeroES ?_; (intro w2 g2 hg2 hB2 hb2; have hne : Hid (g0 < g2) := Nat.lt_of_lt_of_le hB0.lt hg2; replace hB0 := hB0.below hb2 hB0.lt; replace hg2 := Nat.le_trans hb0.size hg2; replace hb0 := hb0.trans (hb2.mono hb0.size); clear hb2; have r0 := H0.out _ _ hB0; have rx := HA.out _ _ hB0))
    | (refine wpList_load_seg rfl 32 _ rfl _ _ rfl _ _ rx Tryd.underlying32 rfl ?_ ?_; (· exact infoE.trans (congrArg some HLx.out.symm)))
    | (go_at_call 10; (with_reducible refine (HC.out _ g0 g2 hb0 hg0 hg2 hB0.lt hB2.lt).mono ?_); rintro e w3 ⟨yc, rfl, hy5, hb3⟩; replace hB2 := hB2.below hb3 hB2.lt; replace hB0 := hB0.below hb3 hB0.lt; replace hb0 := hb0.trans (hb3.mono hb0.size); have HY5 := Lib.hid hy5; have HLy := Lib.hid hy5.shape.len; have HOy := Lib.hid hy5.shape.one; clear r0 rx hb3 hy5)
    | (refine wpList_store_blk rfl 32 _ _ rfl g0 9 yc rfl rfl sc hB0 ?_ ?_ HOy.out ?_; (· exact infoE.trans (congrArg some HLy.out.symm)); (· rw [HLy.out, Hlen.out]; decide); (intro w4 hB4 hgr hsz; replace hB2 := hB2.grown hgr (by have := hne.out; intro e; cases e; omega); replace HY5 := Lib.hid (ER.mono (grownE hgr (.inr (by simp)) (fun k hk => .inl hk)) HY5.out); replace hb0 := Below.grown hb0 hgr hb0.size (fun _ e => by cases e; exact hg0); have HZ := HR.out w4 g0 g2 _ hb0 HY5.out; have HZl := Lib.hid HZ.len; have HZo := Lib.hid HZ.one; clear hgr hsz hB0 HZ; generalize hzc : patch sc 9 yc = zc at hB4 HZl HZo; have Hzc := Lib.hid hzc; clear hzc; have r9 := hB4.whole))
    | (refine wpList_load_seg rfl 55 _ rfl _ _ rfl _ _ r9 Tryd.underlying55 rfl ?_ ?_; (· exact infoES.trans (congrArg some HZl.out.symm)))
    | (refine wpList_store_all rfl 55 _ _ rfl g2 zc rfl rfl zES hB2 ?_ ?_ HZo.out ?_; (· exact infoES.trans (congrArg some HZl.out.symm)); (· exact HZl.out); (intro w5 hB5 hgr; replace HY5 := Lib.hid (ER.mono (grownE hgr (.inr (by simp)) (fun k hk => .inl hk)) HY5.out); replace hb0 := Below.grown hb0 hgr hb0.size (fun _ e => by cases e; exact hg2); clear hgr r9)))
  refine bodyPost_ret (v := .agg zc.toArray) ?_ rfl ⟨zc, rfl, ?_, hb0⟩
  · exact results_blk rfl _ _ g2 zc rfl hB5 _ Tryd.underlying55 rfl (infoES.trans (congrArg some HZl.out.symm))
  · rw [← Hzc.out]; exact HR.out w5 g0 g2 _ hb0 HY5.out

/-- one step's other way -/
theorem istep_any (N : Nat) (ih : OfAt N) (F : List (Option Nat)) (s : Val.St) (sc : List Value) (w : World) (hF : ∀ k, some k ∈ F → k < w.heap.size) (hs : SizeOf.sizeOf s.2.2.2 < N) (hr : s.1 = 4 → Val.eright s.2.2.2 = true) (hz : Val.esz s.2.2.2 ≤ 90000) (hx : StR (fragE w F) s sc) :
    Calls Tryd.prog 61 #[.agg sc.toArray] w (RetSt F w (Val.invOne s)) := by
  obtain ⟨k, c, v, x⟩ := s
  unfold Val.invOne
  simp only at hs hr hz ⊢
  split
  · next h => subst h; exact istep_flip 2 3 (.inl ⟨rfl, rfl⟩) F c v x sc w hx
  · next h2 =>
    split
    · next h => subst h; exact istep_flip 3 2 (.inr ⟨rfl, rfl⟩) F c v x sc w hx
    · next h3 =>
      split
      · next h => subst h; exact istep_change N ih F c v x sc w hF hs (hr rfl) hz hx
      · next h4 => exact istep_stay k h2 h3 h4 F c v x sc w hx

end Go.Proofs.YtkldcjlkeblggaaDoor

/- invert.Of, walked: at each kind, given what the function that it calls does. -/
namespace Go.Proofs.YtkldcjlkeblggaaDoor
open Go.RowKit
open Val (V E)
set_option linter.unusedVariables false


set_option maxRecDepth 100000 in
set_option maxHeartbeats 1000000 in
theorem iof_swap (F : List (Option Nat)) (x y : E) (xc : List Value) (w : World) (hk : x.kind = 1) (hx : ER (fragE w F) x xc)
    (HC : Hid (∀ (W : World) (g0 g2 : Nat), Below w.heap.size w W → w.heap.size ≤ g0 → w.heap.size ≤ g2 → g0 < W.heap.size → g2 < W.heap.size → Calls Tryd.prog 18 #[.agg xc.toArray] W (RetF (some g0 :: some g2 :: F) W y))) :
    Calls Tryd.prog 10 #[.agg xc.toArray] w (RetF F w y) := by
  have H0 := Lib.hid (fun (w2 : World) (g : Nat) (hB : Blk w2 g xc) => (show w2.cell? ⟨g, 0, none⟩ = some (.int .i64 1) from hk ▸ hB.cell hx.k0))
  have HLx := Lib.hid hx.shape.len
  clear hx hk
  go_enter Tryd.func10, Tryd.ntmps10
  go_wp2_with (first
    | (refine wpList_box_lay rfl 32 _ rfl _ rfl ?_; (intro w0 g0 hg0 hB0 hb0))
    | (refine wpList_alloc_lay rfl 32 rfl zE zeroE ?_; (intro w2 g2 hg2 hB2 hb2; replace hB0 := hB0.below hb2 hB0.lt; replace hg2 := Nat.le_trans hb0.size hg2; replace hb0 := hb0.trans (hb2.mono hb0.size); clear hb2; have r0 := H0.out _ _ hB0; have rx := hB0.whole))
    | (refine wpList_load_seg rfl 32 _ rfl _ _ rfl _ _ rx Tryd.underlying32 rfl ?_ ?_; (· exact infoE.trans (congrArg some HLx.out.symm)))
    | (go_at_call 18; (with_reducible refine (HC.out _ g0 g2 hb0 hg0 hg2 hB0.lt hB2.lt).mono ?_); rintro e w3 ⟨yc, rfl, hy5, hb3⟩; replace hB2 := hB2.below hb3 hB2.lt; replace hb0 := hb0.trans (hb3.mono hb0.size); have HY5 := Lib.hid hy5; have HLy := Lib.hid hy5.shape.len; have HOy := Lib.hid hy5.shape.one; clear r0 rx hb3 hy5 hB0)
    | (refine wpList_store_all rfl 32 _ _ rfl g2 yc rfl rfl zE hB2 ?_ ?_ HOy.out ?_; (· exact infoE.trans (congrArg some HLy.out.symm)); (· exact HLy.out); (intro w5 hB5 hgr; replace HY5 := Lib.hid (ER.mono (grownE hgr (.inr (by simp)) (fun k hk => .inl hk)) HY5.out); replace hb0 := Below.grown hb0 hgr hb0.size (fun _ e => by cases e; exact hg2); clear hgr)))
  refine bodyPost_ret (v := .agg yc.toArray) ?_ rfl ⟨yc, rfl, ER.mono (belowE (Below.refl _ _) (fun k hk => .inl (by simp [hk]))) HY5.out, hb0⟩
  exact results_blk rfl _ _ g2 yc rfl hB5 _ Tryd.underlying32 rfl (infoE.trans (congrArg some HLy.out.symm))

set_option maxRecDepth 100000 in
set_option maxHeartbeats 1000000 in
theorem iof_into (F : List (Option Nat)) (x y : E) (xc : List Value) (w : World) (hk : x.kind = 2) (hx : ER (fragE w F) x xc)
    (HC : Hid (∀ (W : World) (g0 g2 : Nat), Below w.heap.size w W → w.heap.size ≤ g0 → w.heap.size ≤ g2 → g0 < W.heap.size → g2 < W.heap.size → Calls Tryd.prog 19 #[.agg xc.toArray] W (RetF (some g0 :: some g2 :: F) W y))) :
    Calls Tryd.prog 10 #[.agg xc.toArray] w (RetF F w y) := by
  have H0 := Lib.hid (fun (w2 : World) (g : Nat) (hB : Blk w2 g xc) => (show w2.cell? ⟨g, 0, none⟩ = some (.int .i64 2) from hk ▸ hB.cell hx.k0))
  have HLx := Lib.hid hx.shape.len
  clear hx hk
  go_enter Tryd.func10, Tryd.ntmps10
  go_wp2_with (first
    | (refine wpList_box_lay rfl 32 _ rfl _ rfl ?_; (intro w0 g0 hg0 hB0 hb0))
    | (refine wpList_alloc_lay rfl 32 rfl zE zeroE ?_; (intro w2 g2 hg2 hB2 hb2; replace hB0 := hB0.below hb2 hB0.lt; replace hg2 := Nat.le_trans hb0.size hg2; replace hb0 := hb0.trans (hb2.mono hb0.size); clear hb2; have r0 := H0.out _ _ hB0; have rx := hB0.whole))
    | (refine wpList_load_seg rfl 32 _ rfl _ _ rfl _ _ rx Tryd.underlying32 rfl ?_ ?_; (· exact infoE.trans (congrArg some HLx.out.symm)))
    | (go_at_call 19; (with_reducible refine (HC.out _ g0 g2 hb0 hg0 hg2 hB0.lt hB2.lt).mono ?_); rintro e w3 ⟨yc, rfl, hy5, hb3⟩; replace hB2 := hB2.below hb3 hB2.lt; replace hb0 := hb0.trans (hb3.mono hb0.size); have HY5 := Lib.hid hy5; have HLy := Lib.hid hy5.shape.len; have HOy := Lib.hid hy5.shape.one; clear r0 rx hb3 hy5 hB0)
    | (refine wpList_store_all rfl 32 _ _ rfl g2 yc rfl rfl zE hB2 ?_ ?_ HOy.out ?_; (· exact infoE.trans (congrArg some HLy.out.symm)); (· exact HLy.out); (intro w5 hB5 hgr; replace HY5 := Lib.hid (ER.mono (grownE hgr (.inr (by simp)) (fun k hk => .inl hk)) HY5.out); replace hb0 := Below.grown hb0 hgr hb0.size (fun _ e => by cases e; exact hg2); clear hgr)))
  refine bodyPost_ret (v := .agg yc.toArray) ?_ rfl ⟨yc, rfl, ER.mono (belowE (Below.refl _ _) (fun k hk => .inl (by simp [hk]))) HY5.out, hb0⟩
  exact results_blk rfl _ _ g2 yc rfl hB5 _ Tryd.underlying32 rfl (infoE.trans (congrArg some HLy.out.symm))

set_option maxRecDepth 100000 in
set_option maxHeartbeats 1000000 in
theorem iof_row (F : List (Option Nat)) (x y : E) (xc : List Value) (w : World) (hk : x.kind = 3) (hx : ER (fragE w F) x xc)
    (HC : Hid (∀ (W : World) (g0 g2 : Nat), Below w.heap.size w W → w.heap.size ≤ g0 → w.heap.size ≤ g2 → g0 < W.heap.size → g2 < W.heap.size → Calls Tryd.prog 20 #[.agg xc.toArray] W (RetF (some g0 :: some g2 :: F) W y))) :
    Calls Tryd.prog 10 #[.agg xc.toArray] w (RetF F w y) := by
  have H0 := Lib.hid (fun (w2 : World) (g : Nat) (hB : Blk w2 g xc) => (show w2.cell? ⟨g, 0, none⟩ = some (.int .i64 3) from hk ▸ hB.cell hx.k0))
  have HLx := Lib.hid hx.shape.len
  clear hx hk
  go_enter Tryd.func10, Tryd.ntmps10
  go_wp2_with (first
    | (refine wpList_box_lay rfl 32 _ rfl _ rfl ?_; (intro w0 g0 hg0 hB0 hb0))
    | (refine wpList_alloc_lay rfl 32 rfl zE zeroE ?_; (intro w2 g2 hg2 hB2 hb2; replace hB0 := hB0.below hb2 hB0.lt; replace hg2 := Nat.le_trans hb0.size hg2; replace hb0 := hb0.trans (hb2.mono hb0.size); clear hb2; have r0 := H0.out _ _ hB0; have rx := hB0.whole))
    | (refine wpList_load_seg rfl 32 _ rfl _ _ rfl _ _ rx Tryd.underlying32 rfl ?_ ?_; (· exact infoE.trans (congrArg some HLx.out.symm)))
    | (go_at_call 20; (with_reducible refine (HC.out _ g0 g2 hb0 hg0 hg2 hB0.lt hB2.lt).mono ?_); rintro e w3 ⟨yc, rfl, hy5, hb3⟩; replace hB2 := hB2.below hb3 hB2.lt; replace hb0 := hb0.trans (hb3.mono hb0.size); have HY5 := Lib.hid hy5; have HLy := Lib.hid hy5.shape.len; have HOy := Lib.hid hy5.shape.one; clear r0 rx hb3 hy5 hB0)
    | (refine wpList_store_all rfl 32 _ _ rfl g2 yc rfl rfl zE hB2 ?_ ?_ HOy.out ?_; (· exact infoE.trans (congrArg some HLy.out.symm)); (· exact HLy.out); (intro w5 hB5 hgr; replace HY5 := Lib.hid (ER.mono (grownE hgr (.inr (by simp)) (fun k hk => .inl hk)) HY5.out); replace hb0 := Below.grown hb0 hgr hb0.size (fun _ e => by cases e; exact hg2); clear hgr)))
  refine bodyPost_ret (v := .agg yc.toArray) ?_ rfl ⟨yc, rfl, ER.mono (belowE (Below.refl _ _) (fun k hk => .inl (by simp [hk]))) HY5.out, hb0⟩
  exact results_blk rfl _ _ g2 yc rfl hB5 _ Tryd.underlying32 rfl (infoE.trans (congrArg some HLy.out.symm))

set_option maxRecDepth 100000 in
set_option maxHeartbeats 1000000 in
theorem iof_book (F : List (Option Nat)) (x y : E) (xc : List Value) (w : World) (hk : x.kind = 4) (hx : ER (fragE w F) x xc)
    (HC : Hid (∀ (W : World) (g0 g2 : Nat), Below w.heap.size w W → w.heap.size ≤ g0 → w.heap.size ≤ g2 → g0 < W.heap.size → g2 < W.heap.size → Calls Tryd.prog 21 #[.agg xc.toArray] W (RetF (some g0 :: some g2 :: F) W y))) :
    Calls Tryd.prog 10 #[.agg xc.toArray] w (RetF F w y) := by
  have H0 := Lib.hid (fun (w2 : World) (g : Nat) (hB : Blk w2 g xc) => (show w2.cell? ⟨g, 0, none⟩ = some (.int .i64 4) from hk ▸ hB.cell hx.k0))
  have HLx := Lib.hid hx.shape.len
  clear hx hk
  go_enter Tryd.func10, Tryd.ntmps10
  go_wp2_with (first
    | (refine wpList_box_lay rfl 32 _ rfl _ rfl ?_; (intro w0 g0 hg0 hB0 hb0))
    | (refine wpList_alloc_lay rfl 32 rfl zE zeroE ?_; (intro w2 g2 hg2 hB2 hb2; replace hB0 := hB0.below hb2 hB0.lt; replace hg2 := Nat.le_trans hb0.size hg2; replace hb0 := hb0.trans (hb2.mono hb0.size); clear hb2; have r0 := H0.out _ _ hB0; have rx := hB0.whole))
    | (refine wpList_load_seg rfl 32 _ rfl _ _ rfl _ _ rx Tryd.underlying32 rfl ?_ ?_; (· exact infoE.trans (congrArg some HLx.out.symm)))
    | (go_at_call 21; (with_reducible refine (HC.out _ g0 g2 hb0 hg0 hg2 hB0.lt hB2.lt).mono ?_); rintro e w3 ⟨yc, rfl, hy5, hb3⟩; replace hB2 := hB2.below hb3 hB2.lt; replace hb0 := hb0.trans (hb3.mono hb0.size); have HY5 := Lib.hid hy5; have HLy := Lib.hid hy5.shape.len; have HOy := Lib.hid hy5.shape.one; clear r0 rx hb3 hy5 hB0)
    | (refine wpList_store_all rfl 32 _ _ rfl g2 yc rfl rfl zE hB2 ?_ ?_ HOy.out ?_; (· exact infoE.trans (congrArg some HLy.out.symm)); (· exact HLy.out); (intro w5 hB5 hgr; replace HY5 := Lib.hid (ER.mono (grownE hgr (.inr (by simp)) (fun k hk => .inl hk)) HY5.out); replace hb0 := Below.grown hb0 hgr hb0.size (fun _ e => by cases e; exact hg2); clear hgr)))
  refine bodyPost_ret (v := .agg yc.toArray) ?_ rfl ⟨yc, rfl, ER.mono (belowE (Below.refl _ _) (fun k hk => .inl (by simp [hk]))) HY5.out, hb0⟩
  exact results_blk rfl _ _ g2 yc rfl hB5 _ Tryd.underlying32 rfl (infoE.trans (congrArg some HLy.out.symm))

set_option maxRecDepth 100000 in
set_option maxHeartbeats 1000000 in
theorem iof_stay (F : List (Option Nat)) (x : E) (yc : List Value) (w : World) (h1 : ¬ x.kind = 1) (h2 : ¬ x.kind = 2) (h3 : ¬ x.kind = 3) (h4 : ¬ x.kind = 4) (hx : ER (fragE w F) x yc) :
    Calls Tryd.prog 10 #[.agg yc.toArray] w (RetF F w x) := by
  have H0 := Lib.hid (fun (w2 : World) (g : Nat) (hB : Blk w2 g yc) => (show w2.cell? ⟨g, 0, none⟩ = some (.int .i64 x.kind) from hB.cell hx.k0))
  have HLx := Lib.hid hx.shape.len; have HOx := Lib.hid hx.shape.one; have HX := Lib.hid hx
  clear hx
  generalize x.kind = k at *
  go_enter Tryd.func10, Tryd.ntmps10
  go_wp2_with (first
    | (refine wpList_box_lay rfl 32 _ rfl _ rfl ?_; (intro w0 g0 hg0 hB0 hb0))
    | (refine wpList_alloc_lay rfl 32 rfl zE zeroE ?_; (intro w2 g2 hg2 hB2 hb2; replace hB0 := hB0.below hb2 hB0.lt; replace hg2 := Nat.le_trans hb0.size hg2; replace hb0 := hb0.trans (hb2.mono hb0.size); clear hb2; have r0 := H0.out _ _ hB0; have rx := hB0.whole))
    | (refine wpList_load_seg rfl 32 _ rfl _ _ rfl _ _ rx Tryd.underlying32 rfl ?_ ?_; (· exact infoE.trans (congrArg some HLx.out.symm)))
    | (refine wpList_store_all rfl 32 _ _ rfl g2 yc rfl rfl zE hB2 ?_ ?_ HOx.out ?_; (· exact infoE.trans (congrArg some HLx.out.symm)); (· exact HLx.out); (intro w5 hB5 hgr; replace hb0 := Below.grown hb0 hgr hb0.size (fun _ e => by cases e; exact hg2); clear hgr)))
  refine bodyPost_ret (v := .agg yc.toArray) ?_ rfl ⟨yc, rfl, ER.mono (belowE hb0 (fun _ h => .inl h)) HX.out, hb0⟩
  exact results_blk rfl _ _ g2 yc rfl hB5 _ Tryd.underlying32 rfl (infoE.trans (congrArg some HLx.out.symm))

end Go.Proofs.YtkldcjlkeblggaaDoor

/- invert.Of does its work at every size, given that the three that go down do. -/
namespace Go.Proofs.YtkldcjlkeblggaaDoor
open Go.RowKit
open Val (V E)
set_option linter.unusedVariables false

/-- what is asked of invert.into and of invert.book: the edits within are of size below N -/
def IntoAt (N : Nat) : Prop := ∀ (F : List (Option Nat)) (x : E) (xc : List Value) (w : World), (∀ k, some k ∈ F → k < w.heap.size) → (∀ s ∈ x.fields, SizeOf.sizeOf s.2 < N) → x.kind = 2 → Val.eright x = true → Val.esz x ≤ 90000 →
  ER (fragE w F) x xc → Calls Tryd.prog 19 #[.agg xc.toArray] w (RetF F w (Val.inv x))
def BookAt (N : Nat) : Prop := ∀ (F : List (Option Nat)) (x : E) (xc : List Value) (w : World), (∀ k, some k ∈ F → k < w.heap.size) → (∀ s ∈ x.keys, SizeOf.sizeOf s.2 < N) → x.kind = 4 → Val.eright x = true → Val.esz x ≤ 90000 →
  ER (fragE w F) x xc → Calls Tryd.prog 21 #[.agg xc.toArray] w (RetF F w (Val.inv x))

theorem frame_in {F : List (Option Nat)} {w W : World} {g0 g2 : Nat} (hb : Below w.heap.size w W) (l0 : w.heap.size ≤ g0) (l2 : w.heap.size ≤ g2) : FLe (fragE w F) (fragE W (some g0 :: some g2 :: F)) := belowE hb (fun k hk => by
  simp only [List.mem_cons, Option.some.injEq] at hk
  rcases hk with hk | hk | hk
  · right; omega
  · right; omega
  · exact .inl hk)
theorem frame_lt {F : List (Option Nat)} {w W : World} {g0 g2 : Nat} (hF : ∀ k, some k ∈ F → k < w.heap.size) (hb : Below w.heap.size w W) (u0 : g0 < W.heap.size) (u2 : g2 < W.heap.size) : ∀ k, some k ∈ (some g0 :: some g2 :: F) → k < W.heap.size := fun k hk => by
  simp only [List.mem_cons, Option.some.injEq] at hk
  rcases hk with hk | hk | hk
  · omega
  · omega
  · exact Nat.lt_of_lt_of_le (hF k hk) hb.size
theorem steps_of_right {x : E} (hk : x.kind = 3) (hr : Val.eright x = true) : Val.esteps 0 false x.steps = true := by
  obtain ⟨k, o, n, f, r, ro, rn, s, ks⟩ := x
  have : k = 3 := hk
  subst this
  rw [Val.eright] at hr
  simp at hr
  exact hr.2
theorem inv_stay {x : E} (h1 : ¬ x.kind = 1) (h2 : ¬ x.kind = 2) (h3 : ¬ x.kind = 3) (h4 : ¬ x.kind = 4) : Val.inv x = x := by
  obtain ⟨k, o, n, f, r, ro, rn, s, ks⟩ := x
  simp only [Val.E.kind] at h1 h2 h3 h4
  rw [Val.inv]
  simp [h1, h2, h3, h4]

theorem of_succ (N : Nat) (hi : IntoAt N) (hb : BookAt N) (hs : StepsAt N) : OfAt (N + 1) := fun F x xc w hF hsz hr hz hx => by
  have hzS : Val.eszS x.steps ≤ 90000 := by cases x; rw [Val.esz] at hz; simp only [Val.E.steps]; omega
  have hsF : ∀ s ∈ x.fields, SizeOf.sizeOf s.2 < N := fun s h => by have := Val.esize_field (x := x) (m := s.1) (e := s.2) h; omega
  have hsS : ∀ s ∈ x.steps, SizeOf.sizeOf s.2.2.2 < N := fun s h => by have := Val.esize_step (x := x) (k := s.1) (c := s.2.1) (v := s.2.2.1) (e := s.2.2.2) h; omega
  have hsK : ∀ s ∈ x.keys, SizeOf.sizeOf s.2 < N := fun s h => by have := Val.esize_key (x := x) (k := s.1) (e := s.2) h; omega
  by_cases h1 : x.kind = 1
  · exact iof_swap F x _ xc w h1 hx (fun W g0 g2 hb' l0 l2 u0 u2 => iswap_any _ x xc W h1 (ER.mono (frame_in hb' l0 l2) hx))
  by_cases h2 : x.kind = 2
  · exact iof_into F x _ xc w h2 hx (fun W g0 g2 hb' l0 l2 u0 u2 => hi _ x xc W (frame_lt hF hb' u0 u2) hsF h2 hr hz (ER.mono (frame_in hb' l0 l2) hx))
  by_cases h3 : x.kind = 3
  · exact iof_row F x _ xc w h3 hx (fun W g0 g2 hb' l0 l2 u0 u2 => irow_any N hs _ x xc W (frame_lt hF hb' u0 u2) hsS (steps_of_right h3 hr) hzS h3 (ER.mono (frame_in hb' l0 l2) hx))
  by_cases h4 : x.kind = 4
  · exact iof_book F x _ xc w h4 hx (fun W g0 g2 hb' l0 l2 u0 u2 => hb _ x xc W (frame_lt hF hb' u0 u2) hsK h4 hr hz (ER.mono (frame_in hb' l0 l2) hx))
  · rw [inv_stay h1 h2 h3 h4]
    exact iof_stay F x xc w h1 h2 h3 h4 hx

/-- all sizes, once the three are walked -/
theorem of_all (hi : ∀ N, OfAt N → IntoAt N) (hb : ∀ N, OfAt N → BookAt N) (hs : ∀ N, OfAt N → StepsAt N) : ∀ N, OfAt N
  | 0 => fun F x xc w hF hsz => absurd hsz (Nat.not_lt_zero _)
  | N + 1 => of_succ N (hi N (of_all hi hb hs N)) (hb N (of_all hi hb hs N)) (hs N (of_all hi hb hs N))

end Go.Proofs.YtkldcjlkeblggaaDoor

/- Plain facts: steps in order are no more than the steps were. -/
namespace Go.Proofs.YtkldcjlkeblggaaDoor.Val
set_option linter.unusedVariables false

theorem addKeep_len (out : List St) (c : Int) : (addKeep out c).length ≤ out.length + 1 := by
  unfold addKeep
  split
  · omega
  · split
    · cases h : out.getLast? with
      | none => simp; omega
      | some s => simp
    · simp
theorem tstep_len (st : List St × List St) (s : St) : (tstep st s).1.length + (tstep st s).2.length ≤ st.1.length + st.2.length + 1 := by
  have h1 := addKeep_len (st.1 ++ st.2) s.2.1
  have h2 := addKeep_len (st.1 ++ st.2) 1
  simp only [List.length_append] at h1 h2
  unfold tstep
  split
  · simpa using h1
  · split
    · simpa using h2
    · split
      · simp; omega
      · split
        · simp; omega
        · split
          · simp; omega
          · omega
theorem tidyFrom_len : ∀ (l : List St) (st : List St × List St), (tidyFrom st l).1.length + (tidyFrom st l).2.length ≤ st.1.length + st.2.length + l.length
  | [], st => by simp [tidyFrom]
  | s :: r, st => by
    have h1 := tidyFrom_len r (tstep st s)
    have h2 := tstep_len st s
    have e : tidyFrom st (s :: r) = tidyFrom (tstep st s) r := rfl
    rw [e, List.length_cons]
    omega
theorem invS_len : ∀ l : List St, (invS l).length = l.length
  | [] => by rw [invS]
  | (k, c, v, e) :: r => by rw [invS, List.length_cons, List.length_cons, invS_len r]
theorem eszS_len : ∀ l : List St, l.length ≤ eszS l
  | [] => by rw [eszS]; simp
  | (k, c, v, e) :: r => by rw [eszS, List.length_cons]; have := eszS_len r; omega
theorem eszF_len : ∀ l : List (Int × E), l.length ≤ eszF l
  | [] => by rw [eszF]; simp
  | (m, e) :: r => by rw [eszF, List.length_cons]; have := eszF_len r; omega
theorem eszK_len : ∀ l : List (V × E), l.length ≤ eszK l
  | [] => by rw [eszK]; simp
  | (k, e) :: r => by rw [eszK, List.length_cons]; have := eszK_len r; omega
theorem tidyFrom_snoc (st : List St × List St) (l : List St) (s : St) : tidyFrom st (l ++ [s]) = tstep (tidyFrom st l) s := by
  unfold tidyFrom
  rw [List.foldl_append]; rfl
theorem tidyFrom_take (l : List St) {k : Nat} (hk : k < l.length) : tidyFrom ([], []) (l.take (k + 1)) = tstep (tidyFrom ([], []) (l.take k)) l[k] := by
  rw [show l.take (k + 1) = l.take k ++ [l[k]] by rw [List.take_add_one, List.getElem?_eq_getElem hk]; rfl, tidyFrom_snoc]

end Go.Proofs.YtkldcjlkeblggaaDoor.Val
