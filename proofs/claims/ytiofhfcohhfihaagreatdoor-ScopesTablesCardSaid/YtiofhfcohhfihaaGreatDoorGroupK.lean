/- The law's first look at package scopes, walked. Package-level variables that hold errors, as the program's text lays them; the wrap that keeps the world's shape. '!=' on the structs of package syntax. Slices compared, walked: slices.Equal, redlinenum.SameTexts. The law ScopesTables, walked: it returns true. What the walk of ScopesTables is told of the package-level variables. -/
import Derived.Test.YtiofhfcohhfihaaGreatDoorGroupE
import Derived.Test.YtiofhfcohhfihaaGreatDoorGroupA
import Derived.Test.YtiofhfcohhfihaaGreatDoorTie
import Derived.ProofKit
import Derived.LaidMore
import Derived.OpenShut
import Derived.Stop.Joined
import Derived.SizedLaws
import Derived.Test.YtiofhfcohhfihaaGreatDoorSxConv
import Derived.Laws.StructEq
import Derived.Test.YtiofhfcohhfihaaGreatDoorGroupG
import Derived.Test.YtiofhfcohhfihaaGreatDoorGroupJ
import Derived.LaidSub
import Derived.LaidHandle
import Derived.Lib.LaidTab

namespace Go.Proofs.YtiofhfcohhfihaaGreatDoor
open Go.RowKit
set_option linter.unusedVariables false
set_option linter.unusedSimpArgs false

def nl : Value := .slice none 0 0
def mN : List Value := [.string (toB [78]), nl, nl, nl, nl, nl, nl, .int .i64 (0 : Nat), .int .i64 (0 : Nat)]
def mM (g : Nat) : List Value := [.string (toB [77]), nl, nl, .slice (some ⟨g, 0, none⟩) 1 1, nl, nl, nl, .int .i64 (0 : Nat), .int .i64 (0 : Nat)]
def exN : Sx.Msg := .mk [78] [] [] [] [] [] [] 0 0
def exM : Sx.Msg := .mk [77] [] [] [exN] [] [] [] 0 0
def exF : Sx.Fil := ⟨[112], [exM, exN], []⟩
def tM : Sc.Ty := ⟨[112, 46, 77], false, 0, 0, 0⟩
def tMN : Sc.Ty := ⟨[112, 46, 77, 46, 78], false, 1, 0, 0⟩
def tN : Sc.Ty := ⟨[112, 46, 78], false, 2, 0, 0⟩
theorem ex_table : Sc.table exF = ([tM, tMN, tN], none) := by
  have h1 : Sc.raws exF = [⟨[112, 46, 77], false, 0, 0⟩, ⟨[112, 46, 77, 46, 78], false, 0, 0⟩, ⟨[112, 46, 78], false, 0, 0⟩] := by
    simp [Sc.raws, exF, exM, exN, Sc.rawMs, Sc.rawM, Sc.rawEs, Sc.within]
  unfold Sc.table
  rw [h1]
  decide
theorem ex_look1 : Sc.Look [tM, tMN, tN] [112, 46, 77] [78] = some tMN := by decide
theorem ex_look2 : Sc.Look [tM, tMN, tN] [112] [78] = some tN := by decide
theorem ex_uniq : Sc.Uniq [tM, tMN, tN] := by unfold Sc.Uniq Sc.fulls; decide
theorem ex_deep : Sx.DeepF exF := by
  refine ⟨by decide, fun e he => by simp [exF] at he, fun m hm => ?_⟩
  have hN : ∀ n, Sx.DeepM (n + 1) exN := fun n => ⟨by decide, fun e he => by simp at he, fun k hk => by simp at hk⟩
  have hM : Sx.DeepM 8 exM := ⟨by decide, fun e he => by simp at he, fun k hk => by
    rw [List.mem_singleton.1 hk]; exact hN 6⟩
  simp only [exF, List.mem_cons, List.not_mem_nil, or_false] at hm
  rcases hm with rfl | rfl
  · exact hM
  · exact hN 7
theorem mN_build (w : World) : (Instr.build 47 #[(0, .string ⟨#[78]⟩)]).run Tryz.prog w = .ok (.agg mN.toArray) w := by kernel_rfl
theorem mM_build (g : Nat) (w : World) : (Instr.build 47 #[(0, .string ⟨#[77]⟩), (3, .slice (some ⟨g, 0, none⟩) 1 1)]).run Tryz.prog w = .ok (.agg (mM g).toArray) w := by kernel_rfl
theorem ms2_build (g : Nat) (w : World) : (Instr.buildSlice 28 2 #[(0, .agg (mM g).toArray), (1, .agg mN.toArray)]).run Tryz.prog w = .ok (.slice (some ⟨w.heap.size, 0, none⟩) 2 2) (w.alloc (.cells (mM g ++ mN).toArray 47)) := by kernel_rfl
theorem fl_build (g : Nat) (w : World) : (Instr.build 31 #[(0, .string ⟨#[112]⟩), (1, .slice (some ⟨g, 0, none⟩) 2 2)]).run Tryz.prog w = .ok (.agg #[.string (toB [112]), .slice (some ⟨g, 0, none⟩) 2 2, nl]) w := by kernel_rfl
theorem info2SM : (Tryz.prog.info? 47).map (fun i => (i.size, i.zero.map (fun z => z.cells.size))) = some (9, some 9) := by kernel_rfl
theorem hrow_of_blk {w : World} {g : Nat} {cs : List Value} (h : Blk w g cs) : HRow (frag w) (some ⟨g, 0, none⟩) cs := by
  obtain ⟨t, h⟩ := h
  exact .inr ⟨g, 0, cs.toArray, t, (0, 0), rfl, h, fun i hi => by rw [Nat.zero_add]; simp⟩
theorem exN_R (h : Frag) : MsgR h exN mN := by
  unfold exN
  rw [MsgR]
  exact ⟨nl, nl, nl, nl, nl, nl, [], [], rfl, ⟨⟨⟨none, 0, rfl, Nat.le_refl _, Nat.zero_le _, fun _ => rfl, .inl rfl⟩, by decide⟩, ⟨⟨none, 0, rfl, Nat.le_refl _, Nat.zero_le _, fun _ => rfl, .inl rfl⟩, by decide⟩, FlatD.nil _ _, FlatD.nil _ _, ⟨⟨none, 0, rfl, Nat.le_refl _, Nat.zero_le _, fun _ => rfl, .inl rfl⟩, by decide⟩, ⟨⟨none, 0, rfl, Nat.le_refl _, Nat.zero_le _, fun _ => rfl, .inl rfl⟩, by decide⟩⟩, by rw [MsgsR], by rw [EnsR]⟩
theorem exM_R {w : World} {g : Nat} (h : Blk w g mN) : MsgR (frag w) exM (mM g) := by
  unfold exM
  rw [MsgR]
  refine ⟨nl, nl, .slice (some ⟨g, 0, none⟩) 1 1, nl, nl, nl, [mN], [], rfl, ⟨⟨⟨none, 0, rfl, Nat.le_refl _, Nat.zero_le _, fun _ => rfl, .inl rfl⟩, by decide⟩, ⟨⟨none, 0, rfl, Nat.le_refl _, Nat.zero_le _, fun _ => rfl, .inl rfl⟩, by decide⟩, ⟨⟨some ⟨g, 0, none⟩, 1, rfl, by decide, by unfold maxLen; decide, (fun e => by cases e), ?_, fun e he => by rw [List.mem_singleton.1 he]; rfl⟩, by decide⟩, FlatD.nil _ _, ⟨⟨none, 0, rfl, Nat.le_refl _, Nat.zero_le _, fun _ => rfl, .inl rfl⟩, by decide⟩, ⟨⟨none, 0, rfl, Nat.le_refl _, Nat.zero_le _, fun _ => rfl, .inl rfl⟩, by decide⟩⟩, ?_, by rw [EnsR]⟩
  · rw [List.flatten_cons, List.flatten_nil, List.append_nil]; exact hrow_of_blk h
  · rw [MsgsR]; exact ⟨mN, [], rfl, exN_R _, by rw [MsgsR]⟩
theorem exF_R {w : World} {g1 g2 : Nat} (h1 : Blk w g1 mN) (h2 : Blk w g2 (mM g1 ++ mN)) : FilR (frag w) exF [.string (toB [112]), .slice (some ⟨g2, 0, none⟩) 2 2, nl] := by
  refine ⟨.slice (some ⟨g2, 0, none⟩) 2 2, nl, [mM g1, mN], [], rfl, ⟨⟨⟨some ⟨g2, 0, none⟩, 2, rfl, Nat.le_refl 2, by unfold maxLen; decide, (fun e => by cases e), ?_, fun e he => ?_⟩, (show 2 ≤ 10000 by decide)⟩, FlatD.nil _ _⟩, ?_, by rw [exF, EnsR]⟩
  · rw [List.flatten_cons, List.flatten_cons, List.flatten_nil, List.append_nil]; exact hrow_of_blk h2
  · simp only [List.mem_cons, List.not_mem_nil, or_false] at he
    rcases he with rfl | rfl <;> rfl
  · show MsgsR (frag w) [exM, exN] _
    rw [MsgsR]
    refine ⟨mM g1, [mN], rfl, exM_R h1, ?_⟩
    rw [MsgsR]; exact ⟨mN, [], rfl, exN_R _, by rw [MsgsR]⟩
theorem fl_one (g : Nat) : ∀ u ∈ ([.string (toB [112]), .slice (some ⟨g, 0, none⟩) 2 2, nl] : List Value), u.oneCell' = true := by
  intro u hu; simp only [List.mem_cons, List.not_mem_nil, or_false] at hu
  rcases hu with rfl | rfl | rfl <;> rfl

theorem ex_two (w w3 : World) (g3 : Nat) (hg3 : ((w.alloc (.cells mN.toArray 47)).alloc (.cells (mM w.heap.size ++ mN).toArray 47)).heap.size ≤ g3)
    (hb3 : Below ((w.alloc (.cells mN.toArray 47)).alloc (.cells (mM w.heap.size ++ mN).toArray 47)).heap.size ((w.alloc (.cells mN.toArray 47)).alloc (.cells (mM w.heap.size ++ mN).toArray 47)) w3) :
    Blk w3 w.heap.size mN ∧ Blk w3 (w.heap.size + 1) (mM w.heap.size ++ mN) ∧ Below w.heap.size w w3 ∧ w.heap.size + 2 ≤ g3 := by
  have e1 : (w.alloc (.cells mN.toArray 47)).heap.size = w.heap.size + 1 := by simp
  have e2 : ((w.alloc (.cells mN.toArray 47)).alloc (.cells (mM w.heap.size ++ mN).toArray 47)).heap.size = w.heap.size + 2 := by simp
  have h1 := (Blk.new w 47 mN).alloc (.cells (mM w.heap.size ++ mN).toArray 47)
  have h2 := Blk.new (w.alloc (.cells mN.toArray 47)) 47 (mM w.heap.size ++ mN)
  rw [e1] at h2
  have h3 : Below w.heap.size w ((w.alloc (.cells mN.toArray 47)).alloc (.cells (mM w.heap.size ++ mN).toArray 47)) := ((Below.refl w.heap.size w).alloc (Nat.le_refl _) _).alloc (by simp) _
  exact ⟨h1.below hb3 (by omega), h2.below hb3 (by omega), h3.trans (hb3.mono (by omega)), by omega⟩

theorem ex_all : ∃ (l : List Sc.Ty) (t1 t2 : Sc.Ty), Sc.table exF = (l, none) ∧ Sc.Uniq l ∧ l.length ≤ 40 ∧ Sc.Look l [112, 46, 77] [78] = some t1 ∧ Sc.Look l [112] [78] = some t2 ∧
    ((toB t1.full).toList == [112, 46, 77, 46, 78]) = true ∧ ((toB t2.full).toList == [112, 46, 78]) = true ∧ ((t1.index : Int) == 1) = true ∧ ((t2.index : Int) == 2) = true :=
  ⟨_, _, _, ex_table, ex_uniq, by decide, ex_look1, ex_look2, by rw [Lib.toList_data, toB_list]; decide, by rw [Lib.toList_data, toB_list]; decide, by decide, by decide⟩
theorem alive_look (w0 : World) (g : Nat) (l : List Sc.Ty) (w : World) (hT : Tab w0 g [] l w) (hU : Sc.Uniq l) (hl : l.length ≤ 40) {t1 : Sc.Ty} (h1 : Sc.Look l [112, 46, 77] [78] = some t1) :
    Calls Tryz.prog 21 #[.pointer (some ⟨g, 0, none⟩), .string ⟨#[112, 46, 77]⟩, .string ⟨#[78]⟩] w fun e w' => e = .returned (.tuple #[.agg (tyC t1).toArray, .bool true]) ∧ Below w.heap.size w w' := by
  have h := look_any w0 g [] l [112, 46, 77] [78] w hT hU hl (by decide) (by decide)
  rw [h1] at h
  exact h
theorem alive_look2 (w0 : World) (g : Nat) (l : List Sc.Ty) (w : World) (hT : Tab w0 g [] l w) (hU : Sc.Uniq l) (hl : l.length ≤ 40) {t1 : Sc.Ty} (h1 : Sc.Look l [112] [78] = some t1) :
    Calls Tryz.prog 21 #[.pointer (some ⟨g, 0, none⟩), .string ⟨#[112]⟩, .string ⟨#[78]⟩] w fun e w' => e = .returned (.tuple #[.agg (tyC t1).toArray, .bool true]) ∧ Below w.heap.size w w' := by
  have h := look_any w0 g [] l [112] [78] w hT hU hl (by decide) (by decide)
  rw [h1] at h
  exact h

set_option maxHeartbeats 4000000 in
set_option maxRecDepth 100000 in
theorem alive09 (A : Nat → Addr) (w : World) (hV : VarsU A w) : Calls Tryz.prog 18 #[] w fun e w' => e = .returned (.bool true) ∧ Below w.heap.size w w' := by
  have HV := Lib.hid hV
  have hb3 := ms2_build
  clear hV
  go_enter Tryz.func18, Tryz.ntmps18
  go_upto_region 2 with (first
    | (refine wpList_buildSlice1 rfl 28 47 _ rfl mN (.agg mN.toArray) rfl Tryz.underlying28 info2SM (show 0 < 9 by decide) (show 9 ≤ 1000 by decide) rfl ?_)
    | (refine wpList_alloc_lay rfl 31 rfl zFl zeroFl ?_; (intro w3 g3 hg3 hB3 hb3'; have H2 := Lib.hid (ex_two w w3 g3 hg3 hb3'); clear hg3 hb3'))
    | (refine wpList_store_all rfl 31 _ _ rfl g3 [.string (toB [112]), .slice (some ⟨w.heap.size + 1, 0, none⟩) 2 2, nl] rfl rfl zFl hB3 infoFl rfl (fl_one _) ?_; (intro w4 hB4 hgr4)))
  have hFR : FilR (frag w4) exF [.string (toB [112]), .slice (some ⟨w.heap.size + 1, 0, none⟩) 2 2, nl] :=
    exF_R (H2.out.1.grown hgr4 (fun e => by cases e; have := H2.out.2.2.2; omega)) (H2.out.2.1.grown hgr4 (fun e => by cases e; have := H2.out.2.2.2; omega))
  have Hb4 : Hid (Below w.heap.size w w4) := Lib.hid (Below.grown H2.out.2.2.1 hgr4 H2.out.2.2.1.size (fun k e => by cases e; have := H2.out.2.2.2; omega))
  have HS := Lib.hid (scopes_of_any A exF _ w4 (HV.out.keep Hb4.out) ex_deep hFR)
  have hW4 := hB4.whole
  obtain ⟨l, t1, t2, hta, hU, hl, hk1, hk2, q1, q2, q3, q4⟩ := ex_all
  have HU := Lib.hid hU; have Hl := Lib.hid hl; have Hk1 := Lib.hid hk1; have Hk2 := Lib.hid hk2
  rw [hta] at HS
  unfold ScopePost at HS
  dsimp only at HS
  have Hone : Hid (([.string (toB [112]), .slice (some ⟨w.heap.size + 1, 0, none⟩) 2 2, nl] : List Value).length = 3) := Lib.hid rfl
  clear hb3 hgr4 hFR H2 hta hU hl hk1 hk2
  generalize ([.string (toB [112]), .slice (some ⟨w.heap.size + 1, 0, none⟩) 2 2, nl] : List Value) = cs at *
  go_upto_region 3 with (first
    | (refine wpList_load_seg rfl 31 _ rfl _ _ rfl _ _ hW4 Tryz.underlying31 rfl ?_ ?_; (· rw [Hone.out]; exact infoFl))
    | (go_at_call 19; (with_reducible refine HS.out.mono ?_); rintro e w5 ⟨hb5, g5, rfl, hT5⟩))
  have HT5 := Lib.hid hT5; have Hb5 := Lib.hid (Hb4.out.trans (hb5.mono Hb4.out.size))
  have HL1 := Lib.hid (alive_look w4 g5 l w5 hT5 HU.out Hl.out Hk1.out)
  clear hT5 hb5
  go_upto_region 6 with (first
    | (go_at_call 21; (with_reducible refine HL1.out.mono ?_); rintro e w6 ⟨rfl, hb6⟩; have HT6 := Lib.hid (HT5.out.keep hb6); have Hb6 := Lib.hid (Hb5.out.trans (hb6.mono Hb5.out.size)); clear hb6)
    | (refine wpList_alloc_lay rfl 59 rfl zTy zeroTy ?_; (intro w7 g7 hg7 hB7 hb7))
    | (refine wpList_store_all rfl 59 _ _ rfl g7 (tyC t1) rfl rfl zTy hB7 infoTy rfl (one_tyC _) ?_; (intro w8 hB8 hgr8; have hb8 := Below.grown hb7 hgr8 hb7.size (fun _ e => by cases e; exact hg7); clear hb7 hgr8 hB7 hg7)))
  have HT8 := Lib.hid (HT6.out.keep hb8)
  have Hb8 := Lib.hid (Hb6.out.trans (hb8.mono Hb6.out.size))
  have HB8 := Lib.hid hB8
  have HL2 := Lib.hid (alive_look2 w4 g5 l w8 HT8.out HU.out Hl.out Hk2.out)
  clear hb8 hB8
  go_upto_region 7 with (first
    | (go_at_call 21; (with_reducible refine HL2.out.mono ?_); rintro e w9 ⟨rfl, hb9⟩; have HB9 := Lib.hid (HB8.out.below hb9 HB8.out.lt); have Hb9 := Lib.hid (Hb8.out.trans (hb9.mono Hb8.out.size)); clear hb9)
    | (refine wpList_alloc_lay rfl 59 rfl zTy zeroTy ?_; (intro w10 g10 hg10 hB10 hb10))
    | (refine wpList_store_all rfl 59 _ _ rfl g10 (tyC t2) rfl rfl zTy hB10 infoTy rfl (one_tyC _) ?_; (intro w11 hB11 hgr11; have hb11 := Below.grown hb10 hgr11 hb10.size (fun _ e => by cases e; exact hg10))))
  have hB9' := HB9.out.below hb11 HB9.out.lt
  have Hb11 := Lib.hid (Hb9.out.trans (hb11.mono Hb9.out.size))
  have x0 : w11.cell? ⟨g7, 0, none⟩ = some (.string (toB t1.full)) := hB9'.cell (o := 0) rfl
  have x2 : w11.cell? ⟨g7, 2, none⟩ = some (.int .i64 t1.index) := hB9'.cell (o := 2) rfl
  have y0 : w11.cell? ⟨g10, 0, none⟩ = some (.string (toB t2.full)) := hB11.cell (o := 0) rfl
  have y2 : w11.cell? ⟨g10, 2, none⟩ = some (.int .i64 t2.index) := hB11.cell (o := 2) rfl
  clear hB9' hB11 hb11 hgr11 hB10 hb10 hg10
  go_wp2_with fail
  go_ret
  exact ⟨rfl, Hb11.out⟩

end Go.Proofs.YtiofhfcohhfihaaGreatDoor

namespace Go.Proofs.YtiofhfcohhfihaaGreatDoor
open Go.ChangeShapes Go.WideShapes Go.ChangeAt Go.RowKit
set_option linter.unusedVariables false

theorem laid_one {P : Program} {W : World} {nm : String} {ti tp te ts : TypeId} {ms : Array (String × TypeId)} {f : Field} (hi : P.underlying ti = some (.interface ms)) (hrow : ∀ u, P.typeName? 3 u = some nm → u = tp)
    (hp : P.underlying tp = some (.pointer te)) (he : P.underlying te = some (.struct #[f])) (hft : f.type = ts) (hfo : f.offset = 0) (hs : P.underlying ts = some .string) (hc : P.cellsOf te = 1) (hcs : P.cellsOf ts = 1) :
    ∀ (l : List (String × DataW Unit)) (ps : List MemPlace), DataW.LaidVars P W l ps →
      (∀ b off, MemPlace.cell b off ∈ ps → (∃ c t, W.heap[b]? = some (.cells c t (0, 0))) ∧ ∀ u v, W.cell? ⟨b, off, none⟩ = some (.iface u v) → Value.okWide P W .any 0 u v) →
      ∀ n tx, (n, (.iface nm (.ptr (.agg [.lit (.string tx)])) : DataW Unit)) ∈ l → ∀ g, P.globalNamed n = some g → (P.globals[g]?).map (·.type) = some ti →
      ∃ a : Addr, W.cell? ⟨g, 0, none⟩ = some (.iface tp (.pointer (some a)))
  | [], ps, h, _, n, tx, hm, _, _, _ => by cases hm
  | (n0, d0) :: r, ps, h, hrows, n, tx, hm, g', hg', ht' => by
    obtain ⟨g, t, cs, fu, p, q, hg, ht, hv, hd, hrest, rfl⟩ := h
    rcases List.mem_cons.1 hm with e | hm
    · cases e
      obtain rfl := Option.some.inj (hg'.symm.trans hg)
      obtain rfl := Option.some.inj (ht'.symm.trans ht)
      obtain ⟨l0⟩ := cs
      have hsz : 0 < l0.length := by
        obtain ⟨_, u, v, e, _⟩ := iface_of_trod hi hd
        have e : l0 = _ := e
        rw [e]; simp
      have ok0 : ∀ u v, l0 = [.iface u v] → Value.okWide P W .any 0 u v := fun u v e => by
        subst e
        exact (hrows g' 0 (by simp [MemPlace.row])).2 u v (by simpa using World.var?_cell hg hv 0)
      obtain ⟨a, s, e0, hca, hst, hzs, rfl⟩ := errorString_of_trod hi hrow hp he hft hfo hs hc hcs hd ok0
      have e0 : l0 = _ := e0
      subst e0
      exact ⟨a, by simpa using World.var?_cell hg hv 0⟩
    · exact laid_one hi hrow hp he hft hfo hs hc hcs r q hrest (fun b off hx => hrows b off (List.mem_append_right _ hx)) n tx hm g' hg' ht'

theorem lo_starE : "*" ++ "errors.errorString" = "*errors.errorString" := by decide
theorem lo_rowE (u : TypeId) (h : Tryz.prog.typeName? 3 u = some "*errors.errorString") : u = 264 :=
  typeName_ptr_named (nm := "errors.errorString") (by rw [lo_starE]; kernel_rfl) (by kernel_rfl) (by decide) u (by rw [lo_starE]; exact h)

/-- the plain wrap with a condition on the world, the world's shape kept (after the kit's two wraps) -/
theorem returnsInHanded_and_shaped {H : Type} {enc : TypeId × Value → H} {a : Assume} {C : Checked} {os : Os} {f : FuncId} {fn : Func} {s : ChangeSpec} {conds : List PathCond} {apart fresh handsOn again : Bool} {X : World → Array Value → Prop}
    (hX : ∀ (w w' : World) (args : Array Value), w.heap = w'.heap → X w args → X w' args)
    (own : ownKnob C.prog.godebug = none) (started : os.Started) (noInit : C.prog.inits.idxOf? f = none) (hfn : C.prog.funcs[f]? = some fn)
    (witness : ∃ (w : World) (tape : Tape) (i : Input), w.os = os ∧ (w.forCall tape i).Shaped C.prog ∧ i.vars = [] ∧ Input.okWide C.prog (w.forCall tape i) .any w.heap.size f i ∧
      ((s.pre enc C.prog fn conds apart (w.forCall tape i).memory i.args ∧ X (w.forCall tape i).memory i.args) ∧ sizedMet enc C.prog fn (OpenSpec.ofChange s) apart (w.forCall tape i).memory i.args) ∧ a.holds C.prog (lone (Frame.enter C.prog f i.args .normal) [] (w.forCall tape i)))
    (contract : ∀ (W : World) (base : Nat) (args : Array Value) (ds gs : List (DataW H)) (before : List MemPlace),
      (∀ (j : Nat) t v, fn.params[j]? = some t → args[j]? = some v → Value.okWide C.prog W .any base t v) →
      DataW.Whole enc C.prog fn.params.toList s.vars apart W args.toList ds gs before →
      conds.all (PathCond.test C.prog ⟨fn.params.toList, ds, s.plain.varTypes C.prog, gs⟩) = true →
      (DataW.weightsEach C.prog (fn.params.toList ++ s.plain.varTypes C.prog) (ds ++ gs)).all (· ≤ reachBytes) = true → X W args → W.ShapedOpen C.prog →
      a.holds C.prog (lone (Frame.enter C.prog f args .normal) [] W) →
      Calls C.prog f args W fun e W' => ∃ v, e = .returned v ∧ s.post enc C.prog fn apart fresh handsOn again W args v W') :
    ReturnsInHanded a C os f .any (fun w args => (s.pre enc C.prog fn conds apart w args ∧ X w args) ∧ sizedMet enc C.prog fn (OpenSpec.ofChange s) apart w args) (s.post enc C.prog fn apart fresh handsOn again) := by
  refine returnsInHanded_of_calls own started noInit witness ?_
  intro w tape i _ hsh _ hok hpre hholds
  obtain ⟨_, _, _, fn', hfn', _, _, _, _, hval⟩ := hok
  have e : fn' = fn := Option.some.inj (hfn'.symm.trans hfn)
  subst e
  obtain ⟨⟨⟨ds, gs, before, hw, hc⟩, hx⟩, hz⟩ := hpre
  have hw' := DataW.Whole.of_heap (w' := w.forCall tape i) (by rfl) hw
  refine (contract (w.forCall tape i) w.heap.size i.args ds gs before hval hw' hc (hz.weights hw) (hX _ _ _ (by rfl) hx) hsh hholds).mono fun e W' ⟨v, he, hp⟩ => ?_
  subst he
  exact ChangeSpec.post_blind hp

end Go.Proofs.YtiofhfcohhfihaaGreatDoor

namespace Go.Proofs.YtiofhfcohhfihaaGreatDoor
open Go.RowKit
set_option linter.unusedVariables false
set_option linter.unusedSimpArgs false

theorem nat_beq (a b : Nat) : (((a : Nat) : Int) == ((b : Nat) : Int)) = decide (a = b) := by
  rw [Bool.eq_iff_iff, beq_iff_eq, decide_eq_true_iff]; omega
theorem int_beq (a b : Int) : (a == b) = decide (a = b) := by
  rw [Bool.eq_iff_iff, beq_iff_eq, decide_eq_true_iff]
theorem fld_eq (x y : Sx.Fld) : decide (x = y) = (decide (x.name = y.name) && decide (x.typ = y.typ) && decide (x.mapKey = y.mapKey) && decide (x.key = y.key) && decide (x.label = y.label) && decide (x.number = y.number) && decide (x.packed = y.packed) && decide (x.oneof = y.oneof) && decide (x.line = y.line) && decide (x.col = y.col)) := by
  rw [Bool.eq_iff_iff]
  simp only [Bool.and_eq_true, decide_eq_true_iff]
  constructor
  · rintro rfl; simp
  · rintro ⟨⟨⟨⟨⟨⟨⟨⟨⟨h1, h2⟩, h3⟩, h4⟩, h5⟩, h6⟩, h7⟩, h8⟩, h9⟩, h10⟩
    cases x; cases y; simp_all
theorem val_eq (x y : Sx.Val) : decide (x = y) = (decide (x.name = y.name) && decide (x.number = y.number) && decide (x.line = y.line) && decide (x.col = y.col)) := by
  rw [Bool.eq_iff_iff]
  simp only [Bool.and_eq_true, decide_eq_true_iff]
  constructor
  · rintro rfl; simp
  · rintro ⟨⟨⟨h1, h2⟩, h3⟩, h4⟩
    cases x; cases y; simp_all
theorem rng_eq (x y : Sx.Rng) : decide (x = y) = (decide (x.lo = y.lo) && decide (x.hi = y.hi)) := by
  rw [Bool.eq_iff_iff]
  simp only [Bool.and_eq_true, decide_eq_true_iff]
  constructor
  · rintro rfl; simp
  · rintro ⟨h1, h2⟩
    cases x; cases y; simp_all
set_option maxHeartbeats 4000000 in
theorem neqSF (x y : Sx.Fld) (w : World) : (binOp .neq 79 (.agg (fC x).toArray) (.agg (fC y).toArray)).run Tryz.prog w = .ok (.bool (!decide (x = y))) w := by
  have u3 := Tryz.underlying3
  have a3 := Tryz.isAgg3
  have z3 := Tryz.sizeOf3
  have u9 := Tryz.underlying9
  have a9 := Tryz.isAgg9
  have z9 := Tryz.sizeOf9
  have hS : Tryz.prog.underlying 79 = some (.struct (Tryz.prog.fieldsOf 79)) := by kernel_rfl
  have hp : Tryz.prog.stoodInHeld 79 = false := by kernel_rfl
  rw [fld_eq]
  have q0 := toB_beq x.name y.name
  generalize decide (x.name = y.name) = b0 at *
  have q1 := toB_beq x.typ y.typ
  generalize decide (x.typ = y.typ) = b1 at *
  have q2 := toB_beq x.mapKey y.mapKey
  generalize decide (x.mapKey = y.mapKey) = b2 at *
  have q3 := toB_beq x.key y.key
  generalize decide (x.key = y.key) = b3 at *
  have q4 := nat_beq x.label y.label
  generalize decide (x.label = y.label) = b4 at *
  have q5 := nat_beq x.number y.number
  generalize decide (x.number = y.number) = b5 at *
  have q6 := nat_beq x.packed y.packed
  generalize decide (x.packed = y.packed) = b6 at *
  have q7 := nat_beq x.oneof y.oneof
  generalize decide (x.oneof = y.oneof) = b7 at *
  have q8 := nat_beq x.line y.line
  generalize decide (x.line = y.line) = b8 at *
  have q9 := nat_beq x.col y.col
  generalize decide (x.col = y.col) = b9 at *
  unfold fC
  rw [run_neq_struct, show (10000 : Nat) = 9999 + 1 from rfl, run_equalIn_agg w 9999 79 _ _ hS hp]
  simp only [Program.fieldsOf, Tryz.underlying79]
  cases b0
  · go_simp
  cases b1
  · go_simp
  cases b2
  · go_simp
  cases b3
  · go_simp
  cases b4
  · go_simp
  cases b5
  · go_simp
  cases b6
  · go_simp
  cases b7
  · go_simp
  cases b8
  · go_simp
  cases b9
  · go_simp
  go_simp
set_option maxHeartbeats 4000000 in
theorem neqRF (x y : Sx.Fld) (w : World) : (binOp .neq 150 (.agg (fC x).toArray) (.agg (fC y).toArray)).run Tryz.prog w = .ok (.bool (!decide (x = y))) w := by
  have u3 := Tryz.underlying3
  have a3 := Tryz.isAgg3
  have z3 := Tryz.sizeOf3
  have u9 := Tryz.underlying9
  have a9 := Tryz.isAgg9
  have z9 := Tryz.sizeOf9
  have hS : Tryz.prog.underlying 150 = some (.struct (Tryz.prog.fieldsOf 150)) := by kernel_rfl
  have hp : Tryz.prog.stoodInHeld 150 = false := by kernel_rfl
  rw [fld_eq]
  have q0 := toB_beq x.name y.name
  generalize decide (x.name = y.name) = b0 at *
  have q1 := toB_beq x.typ y.typ
  generalize decide (x.typ = y.typ) = b1 at *
  have q2 := toB_beq x.mapKey y.mapKey
  generalize decide (x.mapKey = y.mapKey) = b2 at *
  have q3 := toB_beq x.key y.key
  generalize decide (x.key = y.key) = b3 at *
  have q4 := nat_beq x.label y.label
  generalize decide (x.label = y.label) = b4 at *
  have q5 := nat_beq x.number y.number
  generalize decide (x.number = y.number) = b5 at *
  have q6 := nat_beq x.packed y.packed
  generalize decide (x.packed = y.packed) = b6 at *
  have q7 := nat_beq x.oneof y.oneof
  generalize decide (x.oneof = y.oneof) = b7 at *
  have q8 := nat_beq x.line y.line
  generalize decide (x.line = y.line) = b8 at *
  have q9 := nat_beq x.col y.col
  generalize decide (x.col = y.col) = b9 at *
  unfold fC
  rw [run_neq_struct, show (10000 : Nat) = 9999 + 1 from rfl, run_equalIn_agg w 9999 150 _ _ hS hp]
  simp only [Program.fieldsOf, Tryz.underlying150]
  cases b0
  · go_simp
  cases b1
  · go_simp
  cases b2
  · go_simp
  cases b3
  · go_simp
  cases b4
  · go_simp
  cases b5
  · go_simp
  cases b6
  · go_simp
  cases b7
  · go_simp
  cases b8
  · go_simp
  cases b9
  · go_simp
  go_simp
set_option maxHeartbeats 4000000 in
theorem neqSV (x y : Sx.Val) (w : World) : (binOp .neq 148 (.agg (vC x).toArray) (.agg (vC y).toArray)).run Tryz.prog w = .ok (.bool (!decide (x = y))) w := by
  have u3 := Tryz.underlying3
  have a3 := Tryz.isAgg3
  have z3 := Tryz.sizeOf3
  have u9 := Tryz.underlying9
  have a9 := Tryz.isAgg9
  have z9 := Tryz.sizeOf9
  have hS : Tryz.prog.underlying 148 = some (.struct (Tryz.prog.fieldsOf 148)) := by kernel_rfl
  have hp : Tryz.prog.stoodInHeld 148 = false := by kernel_rfl
  rw [val_eq]
  have q0 := toB_beq x.name y.name
  generalize decide (x.name = y.name) = b0 at *
  have q1 := int_beq x.number y.number
  generalize decide (x.number = y.number) = b1 at *
  have q2 := nat_beq x.line y.line
  generalize decide (x.line = y.line) = b2 at *
  have q3 := nat_beq x.col y.col
  generalize decide (x.col = y.col) = b3 at *
  unfold vC
  rw [run_neq_struct, show (10000 : Nat) = 9999 + 1 from rfl, run_equalIn_agg w 9999 148 _ _ hS hp]
  simp only [Program.fieldsOf, Tryz.underlying148]
  cases b0
  · go_simp
  cases b1
  · go_simp
  cases b2
  · go_simp
  cases b3
  · go_simp
  go_simp
set_option maxHeartbeats 4000000 in
theorem neqRV (x y : Sx.Val) (w : World) : (binOp .neq 151 (.agg (vC x).toArray) (.agg (vC y).toArray)).run Tryz.prog w = .ok (.bool (!decide (x = y))) w := by
  have u3 := Tryz.underlying3
  have a3 := Tryz.isAgg3
  have z3 := Tryz.sizeOf3
  have u9 := Tryz.underlying9
  have a9 := Tryz.isAgg9
  have z9 := Tryz.sizeOf9
  have hS : Tryz.prog.underlying 151 = some (.struct (Tryz.prog.fieldsOf 151)) := by kernel_rfl
  have hp : Tryz.prog.stoodInHeld 151 = false := by kernel_rfl
  rw [val_eq]
  have q0 := toB_beq x.name y.name
  generalize decide (x.name = y.name) = b0 at *
  have q1 := int_beq x.number y.number
  generalize decide (x.number = y.number) = b1 at *
  have q2 := nat_beq x.line y.line
  generalize decide (x.line = y.line) = b2 at *
  have q3 := nat_beq x.col y.col
  generalize decide (x.col = y.col) = b3 at *
  unfold vC
  rw [run_neq_struct, show (10000 : Nat) = 9999 + 1 from rfl, run_equalIn_agg w 9999 151 _ _ hS hp]
  simp only [Program.fieldsOf, Tryz.underlying151]
  cases b0
  · go_simp
  cases b1
  · go_simp
  cases b2
  · go_simp
  cases b3
  · go_simp
  go_simp
set_option maxHeartbeats 4000000 in
theorem neqSR (x y : Sx.Rng) (w : World) : (binOp .neq 153 (.agg (rC x).toArray) (.agg (rC y).toArray)).run Tryz.prog w = .ok (.bool (!decide (x = y))) w := by
  have u3 := Tryz.underlying3
  have a3 := Tryz.isAgg3
  have z3 := Tryz.sizeOf3
  have u9 := Tryz.underlying9
  have a9 := Tryz.isAgg9
  have z9 := Tryz.sizeOf9
  have hS : Tryz.prog.underlying 153 = some (.struct (Tryz.prog.fieldsOf 153)) := by kernel_rfl
  have hp : Tryz.prog.stoodInHeld 153 = false := by kernel_rfl
  rw [rng_eq]
  have q0 := nat_beq x.lo y.lo
  generalize decide (x.lo = y.lo) = b0 at *
  have q1 := nat_beq x.hi y.hi
  generalize decide (x.hi = y.hi) = b1 at *
  unfold rC
  rw [run_neq_struct, show (10000 : Nat) = 9999 + 1 from rfl, run_equalIn_agg w 9999 153 _ _ hS hp]
  simp only [Program.fieldsOf, Tryz.underlying153]
  cases b0
  · go_simp
  cases b1
  · go_simp
  go_simp
set_option maxHeartbeats 4000000 in
theorem neqRR (x y : Sx.Rng) (w : World) : (binOp .neq 154 (.agg (rC x).toArray) (.agg (rC y).toArray)).run Tryz.prog w = .ok (.bool (!decide (x = y))) w := by
  have u3 := Tryz.underlying3
  have a3 := Tryz.isAgg3
  have z3 := Tryz.sizeOf3
  have u9 := Tryz.underlying9
  have a9 := Tryz.isAgg9
  have z9 := Tryz.sizeOf9
  have hS : Tryz.prog.underlying 154 = some (.struct (Tryz.prog.fieldsOf 154)) := by kernel_rfl
  have hp : Tryz.prog.stoodInHeld 154 = false := by kernel_rfl
  rw [rng_eq]
  have q0 := nat_beq x.lo y.lo
  generalize decide (x.lo = y.lo) = b0 at *
  have q1 := nat_beq x.hi y.hi
  generalize decide (x.hi = y.hi) = b1 at *
  unfold rC
  rw [run_neq_struct, show (10000 : Nat) = 9999 + 1 from rfl, run_equalIn_agg w 9999 154 _ _ hS hp]
  simp only [Program.fieldsOf, Tryz.underlying154]
  cases b0
  · go_simp
  cases b1
  · go_simp
  go_simp
end Go.Proofs.YtiofhfcohhfihaaGreatDoor

namespace Go.Proofs.YtiofhfcohhfihaaGreatDoor
open Go.RowKit
set_option linter.unusedVariables false
set_option linter.unusedSimpArgs false

theorem fSxEqA9_26 {P : Program} {md : Region.Mode} {ops : Array Oper} {Q : Exit → Act → World → Prop} {P0 P1 : World → Prop} {fin fuel : Nat} {b0 b1 b2 b3 b4 b5 b6 b7 b8 : Bool} {x0 x1 x2 x3 x4 x5 x6 x7 x8 x9 x10 x11 x12 x13 x14 x15 x16 x17 x18 x19 x20 x21 x22 x23 x24 x25 : Value} {d} {w : World} (h : wpAnyG P md ops Q P0 P1 fin fuel #[b0, b1, b2, b3, b4, b5, b6, b7, b8] ⟨#[x0, x1, x2, x3, x4, x5, x6, x7, x8, x9, x10, x11, x12, x13, x14, x15, x16, x17, x18, x19, x20, x21, x22, x23, x24, x25], d⟩ w) : wpAnyG P md ops Q P0 P1 fin fuel #[b0, b1, b2, b3, b4, b5, b6, b7, b8] ⟨#[x0, x1, x2, x3, x4, x5, x6, x7, x8, x9, x10, x11, x12, x13, x14, x15, x16, x17, x18, x19, x20, x21, x22, x23, x24, x25], d⟩ w := h

theorem sizeSStr (w : World) : (Go.sizeOf (Tryz.prog.elem 44)).run Tryz.prog w = .ok 1 w := by kernel_rfl
theorem take_eq_all {α : Type} {xs ys : List α} {n : Nat} (h : xs.take n = ys.take n) (hx : xs.length = n) (hy : ys.length = n) : xs = ys := by
  rw [List.take_of_length_le (by omega), List.take_of_length_le (by omega)] at h; exact h
theorem take_ne {α : Type} {xs ys : List α} {k : Nat} (h1 : k < xs.length) (h2 : k < ys.length) (h : xs[k] ≠ ys[k]) : xs ≠ ys := fun e => by subst e; exact h rfl

set_option maxHeartbeats 4000000 in
set_option maxRecDepth 100000 in
theorem eqS_any (v1 v2 : Value) (xs ys : List Lx.Bs) (w : World) (h1 : FlatB sC (frag w) v1 xs) (h2 : FlatB sC (frag w) v2 ys) :
    Calls Tryz.prog 83 #[v1, v2] w fun e w' => e = .returned (.bool (decide (xs = ys))) ∧ Below w.heap.size w w' := by
  obtain ⟨a1, c1, rfl, _, _, _⟩ := h1.1.len
  obtain ⟨a2, c2, rfl, _, _, _⟩ := h2.1.len
  have HF1 := Lib.hid h1.1; have HF2 := Lib.hid h2.1
  have hn9 : xs.length ≤ 9223372036854775807 := by have := h1.2; omega
  clear h1 h2
  by_cases hl : xs.length = ys.length
  · obtain ⟨n, hn⟩ : ∃ z, z = xs.length := ⟨_, rfl⟩
    have Hn2 : Hid (ys.length = n) := Lib.hid (by rw [hn, hl])
    rw [← hl]
    rw [← hl] at HF2
    rw [← hn] at HF1 HF2 hn9 ⊢
    have Hn1 : Hid (xs.length = n) := Lib.hid hn.symm
    have hz : (((n : Nat) : Int) != ((n : Nat) : Int)) = false := by simp
    obtain ⟨D, hD⟩ : ∃ D, D = decide (xs = ys) := ⟨_, rfl⟩
    rw [← hD]
    have HD := Lib.hid hD
    clear hl hn hD
    go_enter Tryz.func83, Tryz.ntmps83
    go_wp2_with fail
    clear hz
    go_loopw [13] (fun iv wr => ∃ k : Nat, k ≤ n ∧ iv = .int .i64 k ∧ Hid (xs.take k = ys.take k) ∧ Hid (Below w.heap.size w wr)) (fun iv _ => n - (intOf iv).toNat)
    case atStart => exact ⟨0, Nat.zero_le _, rfl, Lib.hid rfl, Lib.hid (Below.refl _ _)⟩
    case round =>
      obtain ⟨k, hkn, rfl, HT, HW⟩ := hrel
      by_cases hlt : k < n
      · have hk1 : k < xs.length := by rw [Hn1.out]; exact hlt
        have hk2 : k < ys.length := by rw [Hn2.out]; exact hlt
        obtain ⟨b0, o0, hb0, hidx0, hcell0⟩ := FlatV.at (n := n) (cap := c1) (a := a1) (HF1.out.mono (below_le HW.out)) sC_len (by decide) (i := k) hk1 Tryz.underlying44 sizeSStr
        obtain ⟨b1, o1, hb1, hidx1, hcell1⟩ := FlatV.at (n := n) (cap := c2) (a := a2) (HF2.out.mono (below_le HW.out)) sC_len (by decide) (i := k) hk2 Tryz.underlying44 sizeSStr
        have hT1 := List.take_succ_eq_append_getElem hk1
        have hT2 := List.take_succ_eq_append_getElem hk2
        have HNx : Hid (xs[k] = ys[k] → xs.take (k + 1) = ys.take (k + 1)) := Lib.hid (fun e => by rw [hT1, hT2, HT.out, e])
        have HNo : Hid (xs[k] ≠ ys[k] → D = false) := Lib.hid (fun e => by rw [HD.out]; exact decide_eq_false (take_ne hk1 hk2 e))
        have hr0 : wr.rangeAt b0 o0 (sC xs[k]) := hcell0
        have hr1 : wr.rangeAt b1 o1 (sC ys[k]) := hcell1
        clear hcell0 hcell1 hT1 hT2
        generalize xs[k] = x at *
        generalize ys[k] = y at *
        have hP : wr.drew.rangeAt b0 o0 (sC x) ∧ wr.drew.rangeAt b1 o1 (sC y) := ⟨hr0, hr1⟩
        clear hr0 hr1 hk1 hk2
        go_wp2_with fail
        refine wp_region_G 99 (fun w' => w'.rangeAt b0 o0 (sC x) ∧ w'.rangeAt b1 o1 (sC y)) (fun _ => True) (by kernel_rfl) hP trivial (fun _ => ?_)
        refine wpAnyG_take0 (i := 0) (v := .slice a1 n c1) rfl (by kernel_rfl) (fun _ _ _ h => h) (.inl ⟨by rfl, fun w hw => by go_simp⟩) (InvG.mk hP trivial) ?_
        refine fSxEqA9_26 ?_
        refine wpAnyG_take0 (i := 1) (v := .int .i64 k) rfl (by kernel_rfl) (fun _ _ _ h => h) (.inl ⟨by rfl, fun w hw => by go_simp⟩) (InvG.mk hP trivial) ?_
        refine fSxEqA9_26 ?_
        refine wpAnyG_take0 (i := 2) (v := .pointer (some ⟨b0, o0, none⟩)) rfl (by kernel_rfl) (fun _ _ _ h => h) (.inl ⟨by rfl, fun w hw => by have hi := hidx0; clear hw; go_simp⟩) (InvG.mk hP trivial) ?_
        refine fSxEqA9_26 ?_
        refine wpAnyG_take0 (i := 3) (v := .string (toB x)) rfl (by kernel_rfl) (fun _ _ _ h => h) (.inl ⟨by rfl, fun w hw => by have hc := hw.1 0 (.string (toB x)) rfl; rw [Nat.add_zero] at hc; clear hw; go_simp⟩) (InvG.mk hP trivial) ?_
        refine fSxEqA9_26 ?_
        refine wpAnyG_take0 (i := 4) (v := .slice a2 n c2) rfl (by kernel_rfl) (fun _ _ _ h => h) (.inl ⟨by rfl, fun w hw => by go_simp⟩) (InvG.mk hP trivial) ?_
        refine fSxEqA9_26 ?_
        refine wpAnyG_take0 (i := 5) (v := .int .i64 k) rfl (by kernel_rfl) (fun _ _ _ h => h) (.inl ⟨by rfl, fun w hw => by go_simp⟩) (InvG.mk hP trivial) ?_
        refine fSxEqA9_26 ?_
        refine wpAnyG_take0 (i := 6) (v := .pointer (some ⟨b1, o1, none⟩)) rfl (by kernel_rfl) (fun _ _ _ h => h) (.inl ⟨by rfl, fun w hw => by have hi := hidx1; clear hw; go_simp⟩) (InvG.mk hP trivial) ?_
        refine fSxEqA9_26 ?_
        refine wpAnyG_take0 (i := 7) (v := .string (toB y)) rfl (by kernel_rfl) (fun _ _ _ h => h) (.inl ⟨by rfl, fun w hw => by have hc := hw.2 0 (.string (toB y)) rfl; rw [Nat.add_zero] at hc; clear hw; go_simp⟩) (InvG.mk hP trivial) ?_
        refine fSxEqA9_26 ?_
        refine wpAnyG_take0 (i := 8) (v := .bool (!decide (x = y))) rfl (by kernel_rfl) (fun _ _ _ h => h) (.inl ⟨by rfl, fun w hw => by have hq := toB_beq x y; clear hw; go_simp⟩) (InvG.mk hP trivial) ?_
        refine fSxEqA9_26 ?_
        refine wpAnyG_done (by kernel_rfl) ?_ _
        have HW2 : Hid (Below w.heap.size w wr.drew) := Lib.hid HW.out.drew
        clear hP hidx0 hidx1
        by_cases hxy : x = y
        · have HTn := Lib.hid (HNx.out hxy)
          rw [decide_eq_true hxy]
          clear hxy HNx HNo
          go_wp2_with fail
          go_roundw
          case rel => exact ⟨k + 1, by omega, by go_num, HTn, HW2⟩
          case measure => simp [intOf]; omega
        · have HDf := Lib.hid (HNo.out hxy)
          rw [decide_eq_false hxy]
          clear hxy HNx HNo
          go_wp2_with fail
          go_ret
          rw [HDf.out]
          exact ⟨rfl, HW2.out⟩
      · obtain rfl : n = k := by omega
        have HDt : Hid (D = true) := Lib.hid (by rw [HD.out]; exact decide_eq_true (take_eq_all HT.out Hn1.out Hn2.out))
        go_wp2_with fail
        go_ret
        rw [HDt.out]
        exact ⟨rfl, HW.out⟩
  · have hz : (((xs.length : Nat) : Int) != ((ys.length : Nat) : Int)) = true := by simp; omega
    have hz2 : ¬ ((xs.length : Nat) : Int) = ((ys.length : Nat) : Int) := by omega
    have hz3 : (((xs.length : Nat) : Int) == ((ys.length : Nat) : Int)) = false := beq_eq_false_iff_ne.2 hz2
    rw [decide_eq_false (fun e => hl (congrArg List.length e))]
    clear hl
    go_enter Tryz.func83, Tryz.ntmps83
    go_wp2_with fail
    go_ret
    exact ⟨rfl, Below.refl _ _⟩

set_option maxHeartbeats 4000000 in
set_option maxRecDepth 100000 in
theorem sameTexts_any (v1 v2 : Value) (xs ys : List Lx.Bs) (w : World) (h1 : FlatB sC (frag w) v1 xs) (h2 : FlatB sC (frag w) v2 ys) :
    Calls Tryz.prog 29 #[v1, v2] w fun e w' => e = .returned (.bool (decide (xs = ys))) ∧ Below w.heap.size w w' := by
  obtain ⟨a1, c1, rfl, _, _, _⟩ := h1.1.len
  obtain ⟨a2, c2, rfl, _, _, _⟩ := h2.1.len
  have HF1 := Lib.hid h1.1; have HF2 := Lib.hid h2.1
  have hn9 : xs.length ≤ 9223372036854775807 := by have := h1.2; omega
  clear h1 h2
  by_cases hl : xs.length = ys.length
  · obtain ⟨n, hn⟩ : ∃ z, z = xs.length := ⟨_, rfl⟩
    have Hn2 : Hid (ys.length = n) := Lib.hid (by rw [hn, hl])
    rw [← hl]
    rw [← hl] at HF2
    rw [← hn] at HF1 HF2 hn9 ⊢
    have Hn1 : Hid (xs.length = n) := Lib.hid hn.symm
    have hz : (((n : Nat) : Int) != ((n : Nat) : Int)) = false := by simp
    obtain ⟨D, hD⟩ : ∃ D, D = decide (xs = ys) := ⟨_, rfl⟩
    rw [← hD]
    have HD := Lib.hid hD
    clear hl hn hD
    go_enter Tryz.func29, Tryz.ntmps29
    go_wp2_with fail
    clear hz
    go_loopw [13] (fun iv wr => ∃ k : Nat, k ≤ n ∧ iv = .int .i64 k ∧ Hid (xs.take k = ys.take k) ∧ Hid (Below w.heap.size w wr)) (fun iv _ => n - (intOf iv).toNat)
    case atStart => exact ⟨0, Nat.zero_le _, rfl, Lib.hid rfl, Lib.hid (Below.refl _ _)⟩
    case round =>
      obtain ⟨k, hkn, rfl, HT, HW⟩ := hrel
      by_cases hlt : k < n
      · have hk1 : k < xs.length := by rw [Hn1.out]; exact hlt
        have hk2 : k < ys.length := by rw [Hn2.out]; exact hlt
        obtain ⟨b0, o0, hb0, hidx0, hcell0⟩ := FlatV.at (n := n) (cap := c1) (a := a1) (HF1.out.mono (below_le HW.out)) sC_len (by decide) (i := k) hk1 Tryz.underlying44 sizeSStr
        obtain ⟨b1, o1, hb1, hidx1, hcell1⟩ := FlatV.at (n := n) (cap := c2) (a := a2) (HF2.out.mono (below_le HW.out)) sC_len (by decide) (i := k) hk2 Tryz.underlying44 sizeSStr
        have hT1 := List.take_succ_eq_append_getElem hk1
        have hT2 := List.take_succ_eq_append_getElem hk2
        have HNx : Hid (xs[k] = ys[k] → xs.take (k + 1) = ys.take (k + 1)) := Lib.hid (fun e => by rw [hT1, hT2, HT.out, e])
        have HNo : Hid (xs[k] ≠ ys[k] → D = false) := Lib.hid (fun e => by rw [HD.out]; exact decide_eq_false (take_ne hk1 hk2 e))
        have hr0 : wr.rangeAt b0 o0 (sC xs[k]) := hcell0
        have hr1 : wr.rangeAt b1 o1 (sC ys[k]) := hcell1
        clear hcell0 hcell1 hT1 hT2
        generalize xs[k] = x at *
        generalize ys[k] = y at *
        have hP : wr.drew.rangeAt b0 o0 (sC x) ∧ wr.drew.rangeAt b1 o1 (sC y) := ⟨hr0, hr1⟩
        clear hr0 hr1 hk1 hk2
        go_wp2_with fail
        refine wp_region_G 99 (fun w' => w'.rangeAt b0 o0 (sC x) ∧ w'.rangeAt b1 o1 (sC y)) (fun _ => True) (by kernel_rfl) hP trivial (fun _ => ?_)
        refine wpAnyG_take0 (i := 0) (v := .slice a1 n c1) rfl (by kernel_rfl) (fun _ _ _ h => h) (.inl ⟨by rfl, fun w hw => by go_simp⟩) (InvG.mk hP trivial) ?_
        refine fSxEqA9_26 ?_
        refine wpAnyG_take0 (i := 1) (v := .int .i64 k) rfl (by kernel_rfl) (fun _ _ _ h => h) (.inl ⟨by rfl, fun w hw => by go_simp⟩) (InvG.mk hP trivial) ?_
        refine fSxEqA9_26 ?_
        refine wpAnyG_take0 (i := 2) (v := .pointer (some ⟨b0, o0, none⟩)) rfl (by kernel_rfl) (fun _ _ _ h => h) (.inl ⟨by rfl, fun w hw => by have hi := hidx0; clear hw; go_simp⟩) (InvG.mk hP trivial) ?_
        refine fSxEqA9_26 ?_
        refine wpAnyG_take0 (i := 3) (v := .string (toB x)) rfl (by kernel_rfl) (fun _ _ _ h => h) (.inl ⟨by rfl, fun w hw => by have hc := hw.1 0 (.string (toB x)) rfl; rw [Nat.add_zero] at hc; clear hw; go_simp⟩) (InvG.mk hP trivial) ?_
        refine fSxEqA9_26 ?_
        refine wpAnyG_take0 (i := 4) (v := .slice a2 n c2) rfl (by kernel_rfl) (fun _ _ _ h => h) (.inl ⟨by rfl, fun w hw => by go_simp⟩) (InvG.mk hP trivial) ?_
        refine fSxEqA9_26 ?_
        refine wpAnyG_take0 (i := 5) (v := .int .i64 k) rfl (by kernel_rfl) (fun _ _ _ h => h) (.inl ⟨by rfl, fun w hw => by go_simp⟩) (InvG.mk hP trivial) ?_
        refine fSxEqA9_26 ?_
        refine wpAnyG_take0 (i := 6) (v := .pointer (some ⟨b1, o1, none⟩)) rfl (by kernel_rfl) (fun _ _ _ h => h) (.inl ⟨by rfl, fun w hw => by have hi := hidx1; clear hw; go_simp⟩) (InvG.mk hP trivial) ?_
        refine fSxEqA9_26 ?_
        refine wpAnyG_take0 (i := 7) (v := .string (toB y)) rfl (by kernel_rfl) (fun _ _ _ h => h) (.inl ⟨by rfl, fun w hw => by have hc := hw.2 0 (.string (toB y)) rfl; rw [Nat.add_zero] at hc; clear hw; go_simp⟩) (InvG.mk hP trivial) ?_
        refine fSxEqA9_26 ?_
        refine wpAnyG_take0 (i := 8) (v := .bool (!decide (x = y))) rfl (by kernel_rfl) (fun _ _ _ h => h) (.inl ⟨by rfl, fun w hw => by have hq := toB_beq x y; clear hw; go_simp⟩) (InvG.mk hP trivial) ?_
        refine fSxEqA9_26 ?_
        refine wpAnyG_done (by kernel_rfl) ?_ _
        have HW2 : Hid (Below w.heap.size w wr.drew) := Lib.hid HW.out.drew
        clear hP hidx0 hidx1
        by_cases hxy : x = y
        · have HTn := Lib.hid (HNx.out hxy)
          rw [decide_eq_true hxy]
          clear hxy HNx HNo
          go_wp2_with fail
          go_roundw
          case rel => exact ⟨k + 1, by omega, by go_num, HTn, HW2⟩
          case measure => simp [intOf]; omega
        · have HDf := Lib.hid (HNo.out hxy)
          rw [decide_eq_false hxy]
          clear hxy HNx HNo
          go_wp2_with fail
          go_ret
          rw [HDf.out]
          exact ⟨rfl, HW2.out⟩
      · obtain rfl : n = k := by omega
        have HDt : Hid (D = true) := Lib.hid (by rw [HD.out]; exact decide_eq_true (take_eq_all HT.out Hn1.out Hn2.out))
        go_wp2_with fail
        go_ret
        rw [HDt.out]
        exact ⟨rfl, HW.out⟩
  · have hz : (((xs.length : Nat) : Int) != ((ys.length : Nat) : Int)) = true := by simp; omega
    have hz2 : ¬ ((xs.length : Nat) : Int) = ((ys.length : Nat) : Int) := by omega
    have hz3 : (((xs.length : Nat) : Int) == ((ys.length : Nat) : Int)) = false := beq_eq_false_iff_ne.2 hz2
    rw [decide_eq_false (fun e => hl (congrArg List.length e))]
    clear hl
    go_enter Tryz.func29, Tryz.ntmps29
    go_wp2_with fail
    go_ret
    exact ⟨rfl, Below.refl _ _⟩

set_option maxHeartbeats 4000000 in
set_option maxRecDepth 100000 in
theorem eqF_any (v1 v2 : Value) (xs ys : List Sx.Fld) (w : World) (h1 : FlatB fC (frag w) v1 xs) (h2 : FlatB fC (frag w) v2 ys) :
    Calls Tryz.prog 82 #[v1, v2] w fun e w' => e = .returned (.bool (decide (xs = ys))) ∧ Below w.heap.size w w' := by
  obtain ⟨a1, c1, rfl, _, _, _⟩ := h1.1.len
  obtain ⟨a2, c2, rfl, _, _, _⟩ := h2.1.len
  have HF1 := Lib.hid h1.1; have HF2 := Lib.hid h2.1
  have hn9 : xs.length ≤ 9223372036854775807 := by have := h1.2; omega
  clear h1 h2
  by_cases hl : xs.length = ys.length
  · obtain ⟨n, hn⟩ : ∃ z, z = xs.length := ⟨_, rfl⟩
    have Hn2 : Hid (ys.length = n) := Lib.hid (by rw [hn, hl])
    rw [← hl]
    rw [← hl] at HF2
    rw [← hn] at HF1 HF2 hn9 ⊢
    have Hn1 : Hid (xs.length = n) := Lib.hid hn.symm
    have hz : (((n : Nat) : Int) != ((n : Nat) : Int)) = false := by simp
    obtain ⟨D, hD⟩ : ∃ D, D = decide (xs = ys) := ⟨_, rfl⟩
    rw [← hD]
    have HD := Lib.hid hD
    clear hl hn hD
    go_enter Tryz.func82, Tryz.ntmps82
    go_wp2_with fail
    clear hz
    go_loopw [13] (fun iv wr => ∃ k : Nat, k ≤ n ∧ iv = .int .i64 k ∧ Hid (xs.take k = ys.take k) ∧ Hid (Below w.heap.size w wr)) (fun iv _ => n - (intOf iv).toNat)
    case atStart => exact ⟨0, Nat.zero_le _, rfl, Lib.hid rfl, Lib.hid (Below.refl _ _)⟩
    case round =>
      obtain ⟨k, hkn, rfl, HT, HW⟩ := hrel
      by_cases hlt : k < n
      · have hk1 : k < xs.length := by rw [Hn1.out]; exact hlt
        have hk2 : k < ys.length := by rw [Hn2.out]; exact hlt
        obtain ⟨b0, o0, hb0, hidx0, hcell0⟩ := FlatV.at (n := n) (cap := c1) (a := a1) (HF1.out.mono (below_le HW.out)) fC_len (by decide) (i := k) hk1 Tryz.underlying43 sizeSF
        obtain ⟨b1, o1, hb1, hidx1, hcell1⟩ := FlatV.at (n := n) (cap := c2) (a := a2) (HF2.out.mono (below_le HW.out)) fC_len (by decide) (i := k) hk2 Tryz.underlying43 sizeSF
        have hT1 := List.take_succ_eq_append_getElem hk1
        have hT2 := List.take_succ_eq_append_getElem hk2
        have HNx : Hid (xs[k] = ys[k] → xs.take (k + 1) = ys.take (k + 1)) := Lib.hid (fun e => by rw [hT1, hT2, HT.out, e])
        have HNo : Hid (xs[k] ≠ ys[k] → D = false) := Lib.hid (fun e => by rw [HD.out]; exact decide_eq_false (take_ne hk1 hk2 e))
        have hr0 : wr.rangeAt b0 o0 (fC xs[k]) := hcell0
        have hr1 : wr.rangeAt b1 o1 (fC ys[k]) := hcell1
        clear hcell0 hcell1 hT1 hT2
        generalize xs[k] = x at *
        generalize ys[k] = y at *
        have hP : wr.drew.rangeAt b0 o0 (fC x) ∧ wr.drew.rangeAt b1 o1 (fC y) := ⟨hr0, hr1⟩
        clear hr0 hr1 hk1 hk2
        go_wp2_with fail
        refine wp_region_G 99 (fun w' => w'.rangeAt b0 o0 (fC x) ∧ w'.rangeAt b1 o1 (fC y)) (fun _ => True) (by kernel_rfl) hP trivial (fun _ => ?_)
        refine wpAnyG_take0 (i := 0) (v := .slice a1 n c1) rfl (by kernel_rfl) (fun _ _ _ h => h) (.inl ⟨by rfl, fun w hw => by go_simp⟩) (InvG.mk hP trivial) ?_
        refine fSxEqA9_26 ?_
        refine wpAnyG_take0 (i := 1) (v := .int .i64 k) rfl (by kernel_rfl) (fun _ _ _ h => h) (.inl ⟨by rfl, fun w hw => by go_simp⟩) (InvG.mk hP trivial) ?_
        refine fSxEqA9_26 ?_
        refine wpAnyG_take0 (i := 2) (v := .pointer (some ⟨b0, o0, none⟩)) rfl (by kernel_rfl) (fun _ _ _ h => h) (.inl ⟨by rfl, fun w hw => by have hi := hidx0; clear hw; go_simp⟩) (InvG.mk hP trivial) ?_
        refine fSxEqA9_26 ?_
        refine wpAnyG_take0 (i := 3) (v := .agg (fC x).toArray) rfl (by kernel_rfl) (fun _ _ _ h => h) (yieldsIf_load_mid (by rfl) 79 _ rfl b0 o0 (by go_simp) (fC x) _ (fun w h => h.1) Tryz.underlying79 rfl infoF) (InvG.mk hP trivial) ?_
        refine fSxEqA9_26 ?_
        refine wpAnyG_take0 (i := 4) (v := .slice a2 n c2) rfl (by kernel_rfl) (fun _ _ _ h => h) (.inl ⟨by rfl, fun w hw => by go_simp⟩) (InvG.mk hP trivial) ?_
        refine fSxEqA9_26 ?_
        refine wpAnyG_take0 (i := 5) (v := .int .i64 k) rfl (by kernel_rfl) (fun _ _ _ h => h) (.inl ⟨by rfl, fun w hw => by go_simp⟩) (InvG.mk hP trivial) ?_
        refine fSxEqA9_26 ?_
        refine wpAnyG_take0 (i := 6) (v := .pointer (some ⟨b1, o1, none⟩)) rfl (by kernel_rfl) (fun _ _ _ h => h) (.inl ⟨by rfl, fun w hw => by have hi := hidx1; clear hw; go_simp⟩) (InvG.mk hP trivial) ?_
        refine fSxEqA9_26 ?_
        refine wpAnyG_take0 (i := 7) (v := .agg (fC y).toArray) rfl (by kernel_rfl) (fun _ _ _ h => h) (yieldsIf_load_mid (by rfl) 79 _ rfl b1 o1 (by go_simp) (fC y) _ (fun w h => h.2) Tryz.underlying79 rfl infoF) (InvG.mk hP trivial) ?_
        refine fSxEqA9_26 ?_
        refine wpAnyG_take0 (i := 8) (v := .bool (!decide (x = y))) rfl (by kernel_rfl) (fun _ _ _ h => h) (.inl ⟨by rfl, fun w hw => by have hq := neqSF x y; have hG : Tryz.prog.eqGuardType Tryz.prog.depth 79 = false := (by kernel_rfl); clear hw; go_simp⟩) (InvG.mk hP trivial) ?_
        refine fSxEqA9_26 ?_
        refine wpAnyG_done (by kernel_rfl) ?_ _
        have HW2 : Hid (Below w.heap.size w wr.drew) := Lib.hid HW.out.drew
        clear hP hidx0 hidx1
        by_cases hxy : x = y
        · have HTn := Lib.hid (HNx.out hxy)
          rw [decide_eq_true hxy]
          clear hxy HNx HNo
          go_wp2_with fail
          go_roundw
          case rel => exact ⟨k + 1, by omega, by go_num, HTn, HW2⟩
          case measure => simp [intOf]; omega
        · have HDf := Lib.hid (HNo.out hxy)
          rw [decide_eq_false hxy]
          clear hxy HNx HNo
          go_wp2_with fail
          go_ret
          rw [HDf.out]
          exact ⟨rfl, HW2.out⟩
      · obtain rfl : n = k := by omega
        have HDt : Hid (D = true) := Lib.hid (by rw [HD.out]; exact decide_eq_true (take_eq_all HT.out Hn1.out Hn2.out))
        go_wp2_with fail
        go_ret
        rw [HDt.out]
        exact ⟨rfl, HW.out⟩
  · have hz : (((xs.length : Nat) : Int) != ((ys.length : Nat) : Int)) = true := by simp; omega
    have hz2 : ¬ ((xs.length : Nat) : Int) = ((ys.length : Nat) : Int) := by omega
    have hz3 : (((xs.length : Nat) : Int) == ((ys.length : Nat) : Int)) = false := beq_eq_false_iff_ne.2 hz2
    rw [decide_eq_false (fun e => hl (congrArg List.length e))]
    clear hl
    go_enter Tryz.func82, Tryz.ntmps82
    go_wp2_with fail
    go_ret
    exact ⟨rfl, Below.refl _ _⟩

set_option maxHeartbeats 4000000 in
set_option maxRecDepth 100000 in
theorem eqR_any (v1 v2 : Value) (xs ys : List Sx.Rng) (w : World) (h1 : FlatB rC (frag w) v1 xs) (h2 : FlatB rC (frag w) v2 ys) :
    Calls Tryz.prog 84 #[v1, v2] w fun e w' => e = .returned (.bool (decide (xs = ys))) ∧ Below w.heap.size w w' := by
  obtain ⟨a1, c1, rfl, _, _, _⟩ := h1.1.len
  obtain ⟨a2, c2, rfl, _, _, _⟩ := h2.1.len
  have HF1 := Lib.hid h1.1; have HF2 := Lib.hid h2.1
  have hn9 : xs.length ≤ 9223372036854775807 := by have := h1.2; omega
  clear h1 h2
  by_cases hl : xs.length = ys.length
  · obtain ⟨n, hn⟩ : ∃ z, z = xs.length := ⟨_, rfl⟩
    have Hn2 : Hid (ys.length = n) := Lib.hid (by rw [hn, hl])
    rw [← hl]
    rw [← hl] at HF2
    rw [← hn] at HF1 HF2 hn9 ⊢
    have Hn1 : Hid (xs.length = n) := Lib.hid hn.symm
    have hz : (((n : Nat) : Int) != ((n : Nat) : Int)) = false := by simp
    obtain ⟨D, hD⟩ : ∃ D, D = decide (xs = ys) := ⟨_, rfl⟩
    rw [← hD]
    have HD := Lib.hid hD
    clear hl hn hD
    go_enter Tryz.func84, Tryz.ntmps84
    go_wp2_with fail
    clear hz
    go_loopw [13] (fun iv wr => ∃ k : Nat, k ≤ n ∧ iv = .int .i64 k ∧ Hid (xs.take k = ys.take k) ∧ Hid (Below w.heap.size w wr)) (fun iv _ => n - (intOf iv).toNat)
    case atStart => exact ⟨0, Nat.zero_le _, rfl, Lib.hid rfl, Lib.hid (Below.refl _ _)⟩
    case round =>
      obtain ⟨k, hkn, rfl, HT, HW⟩ := hrel
      by_cases hlt : k < n
      · have hk1 : k < xs.length := by rw [Hn1.out]; exact hlt
        have hk2 : k < ys.length := by rw [Hn2.out]; exact hlt
        obtain ⟨b0, o0, hb0, hidx0, hcell0⟩ := FlatV.at (n := n) (cap := c1) (a := a1) (HF1.out.mono (below_le HW.out)) rC_len (by decide) (i := k) hk1 Tryz.underlying45 sizeSR
        obtain ⟨b1, o1, hb1, hidx1, hcell1⟩ := FlatV.at (n := n) (cap := c2) (a := a2) (HF2.out.mono (below_le HW.out)) rC_len (by decide) (i := k) hk2 Tryz.underlying45 sizeSR
        have hT1 := List.take_succ_eq_append_getElem hk1
        have hT2 := List.take_succ_eq_append_getElem hk2
        have HNx : Hid (xs[k] = ys[k] → xs.take (k + 1) = ys.take (k + 1)) := Lib.hid (fun e => by rw [hT1, hT2, HT.out, e])
        have HNo : Hid (xs[k] ≠ ys[k] → D = false) := Lib.hid (fun e => by rw [HD.out]; exact decide_eq_false (take_ne hk1 hk2 e))
        have hr0 : wr.rangeAt b0 o0 (rC xs[k]) := hcell0
        have hr1 : wr.rangeAt b1 o1 (rC ys[k]) := hcell1
        clear hcell0 hcell1 hT1 hT2
        generalize xs[k] = x at *
        generalize ys[k] = y at *
        have hP : wr.drew.rangeAt b0 o0 (rC x) ∧ wr.drew.rangeAt b1 o1 (rC y) := ⟨hr0, hr1⟩
        clear hr0 hr1 hk1 hk2
        go_wp2_with fail
        refine wp_region_G 99 (fun w' => w'.rangeAt b0 o0 (rC x) ∧ w'.rangeAt b1 o1 (rC y)) (fun _ => True) (by kernel_rfl) hP trivial (fun _ => ?_)
        refine wpAnyG_take0 (i := 0) (v := .slice a1 n c1) rfl (by kernel_rfl) (fun _ _ _ h => h) (.inl ⟨by rfl, fun w hw => by go_simp⟩) (InvG.mk hP trivial) ?_
        refine fSxEqA9_26 ?_
        refine wpAnyG_take0 (i := 1) (v := .int .i64 k) rfl (by kernel_rfl) (fun _ _ _ h => h) (.inl ⟨by rfl, fun w hw => by go_simp⟩) (InvG.mk hP trivial) ?_
        refine fSxEqA9_26 ?_
        refine wpAnyG_take0 (i := 2) (v := .pointer (some ⟨b0, o0, none⟩)) rfl (by kernel_rfl) (fun _ _ _ h => h) (.inl ⟨by rfl, fun w hw => by have hi := hidx0; clear hw; go_simp⟩) (InvG.mk hP trivial) ?_
        refine fSxEqA9_26 ?_
        refine wpAnyG_take0 (i := 3) (v := .agg (rC x).toArray) rfl (by kernel_rfl) (fun _ _ _ h => h) (yieldsIf_load_mid (by rfl) 153 _ rfl b0 o0 (by go_simp) (rC x) _ (fun w h => h.1) Tryz.underlying153 rfl infoRg) (InvG.mk hP trivial) ?_
        refine fSxEqA9_26 ?_
        refine wpAnyG_take0 (i := 4) (v := .slice a2 n c2) rfl (by kernel_rfl) (fun _ _ _ h => h) (.inl ⟨by rfl, fun w hw => by go_simp⟩) (InvG.mk hP trivial) ?_
        refine fSxEqA9_26 ?_
        refine wpAnyG_take0 (i := 5) (v := .int .i64 k) rfl (by kernel_rfl) (fun _ _ _ h => h) (.inl ⟨by rfl, fun w hw => by go_simp⟩) (InvG.mk hP trivial) ?_
        refine fSxEqA9_26 ?_
        refine wpAnyG_take0 (i := 6) (v := .pointer (some ⟨b1, o1, none⟩)) rfl (by kernel_rfl) (fun _ _ _ h => h) (.inl ⟨by rfl, fun w hw => by have hi := hidx1; clear hw; go_simp⟩) (InvG.mk hP trivial) ?_
        refine fSxEqA9_26 ?_
        refine wpAnyG_take0 (i := 7) (v := .agg (rC y).toArray) rfl (by kernel_rfl) (fun _ _ _ h => h) (yieldsIf_load_mid (by rfl) 153 _ rfl b1 o1 (by go_simp) (rC y) _ (fun w h => h.2) Tryz.underlying153 rfl infoRg) (InvG.mk hP trivial) ?_
        refine fSxEqA9_26 ?_
        refine wpAnyG_take0 (i := 8) (v := .bool (!decide (x = y))) rfl (by kernel_rfl) (fun _ _ _ h => h) (.inl ⟨by rfl, fun w hw => by have hq := neqSR x y; have hG : Tryz.prog.eqGuardType Tryz.prog.depth 153 = false := (by kernel_rfl); clear hw; go_simp⟩) (InvG.mk hP trivial) ?_
        refine fSxEqA9_26 ?_
        refine wpAnyG_done (by kernel_rfl) ?_ _
        have HW2 : Hid (Below w.heap.size w wr.drew) := Lib.hid HW.out.drew
        clear hP hidx0 hidx1
        by_cases hxy : x = y
        · have HTn := Lib.hid (HNx.out hxy)
          rw [decide_eq_true hxy]
          clear hxy HNx HNo
          go_wp2_with fail
          go_roundw
          case rel => exact ⟨k + 1, by omega, by go_num, HTn, HW2⟩
          case measure => simp [intOf]; omega
        · have HDf := Lib.hid (HNo.out hxy)
          rw [decide_eq_false hxy]
          clear hxy HNx HNo
          go_wp2_with fail
          go_ret
          rw [HDf.out]
          exact ⟨rfl, HW2.out⟩
      · obtain rfl : n = k := by omega
        have HDt : Hid (D = true) := Lib.hid (by rw [HD.out]; exact decide_eq_true (take_eq_all HT.out Hn1.out Hn2.out))
        go_wp2_with fail
        go_ret
        rw [HDt.out]
        exact ⟨rfl, HW.out⟩
  · have hz : (((xs.length : Nat) : Int) != ((ys.length : Nat) : Int)) = true := by simp; omega
    have hz2 : ¬ ((xs.length : Nat) : Int) = ((ys.length : Nat) : Int) := by omega
    have hz3 : (((xs.length : Nat) : Int) == ((ys.length : Nat) : Int)) = false := beq_eq_false_iff_ne.2 hz2
    rw [decide_eq_false (fun e => hl (congrArg List.length e))]
    clear hl
    go_enter Tryz.func84, Tryz.ntmps84
    go_wp2_with fail
    go_ret
    exact ⟨rfl, Below.refl _ _⟩

set_option maxHeartbeats 4000000 in
set_option maxRecDepth 100000 in
theorem eqV_any (v1 v2 : Value) (xs ys : List Sx.Val) (w : World) (h1 : FlatB vC (frag w) v1 xs) (h2 : FlatB vC (frag w) v2 ys) :
    Calls Tryz.prog 85 #[v1, v2] w fun e w' => e = .returned (.bool (decide (xs = ys))) ∧ Below w.heap.size w w' := by
  obtain ⟨a1, c1, rfl, _, _, _⟩ := h1.1.len
  obtain ⟨a2, c2, rfl, _, _, _⟩ := h2.1.len
  have HF1 := Lib.hid h1.1; have HF2 := Lib.hid h2.1
  have hn9 : xs.length ≤ 9223372036854775807 := by have := h1.2; omega
  clear h1 h2
  by_cases hl : xs.length = ys.length
  · obtain ⟨n, hn⟩ : ∃ z, z = xs.length := ⟨_, rfl⟩
    have Hn2 : Hid (ys.length = n) := Lib.hid (by rw [hn, hl])
    rw [← hl]
    rw [← hl] at HF2
    rw [← hn] at HF1 HF2 hn9 ⊢
    have Hn1 : Hid (xs.length = n) := Lib.hid hn.symm
    have hz : (((n : Nat) : Int) != ((n : Nat) : Int)) = false := by simp
    obtain ⟨D, hD⟩ : ∃ D, D = decide (xs = ys) := ⟨_, rfl⟩
    rw [← hD]
    have HD := Lib.hid hD
    clear hl hn hD
    go_enter Tryz.func85, Tryz.ntmps85
    go_wp2_with fail
    clear hz
    go_loopw [13] (fun iv wr => ∃ k : Nat, k ≤ n ∧ iv = .int .i64 k ∧ Hid (xs.take k = ys.take k) ∧ Hid (Below w.heap.size w wr)) (fun iv _ => n - (intOf iv).toNat)
    case atStart => exact ⟨0, Nat.zero_le _, rfl, Lib.hid rfl, Lib.hid (Below.refl _ _)⟩
    case round =>
      obtain ⟨k, hkn, rfl, HT, HW⟩ := hrel
      by_cases hlt : k < n
      · have hk1 : k < xs.length := by rw [Hn1.out]; exact hlt
        have hk2 : k < ys.length := by rw [Hn2.out]; exact hlt
        obtain ⟨b0, o0, hb0, hidx0, hcell0⟩ := FlatV.at (n := n) (cap := c1) (a := a1) (HF1.out.mono (below_le HW.out)) vC_len (by decide) (i := k) hk1 Tryz.underlying95 sizeSV
        obtain ⟨b1, o1, hb1, hidx1, hcell1⟩ := FlatV.at (n := n) (cap := c2) (a := a2) (HF2.out.mono (below_le HW.out)) vC_len (by decide) (i := k) hk2 Tryz.underlying95 sizeSV
        have hT1 := List.take_succ_eq_append_getElem hk1
        have hT2 := List.take_succ_eq_append_getElem hk2
        have HNx : Hid (xs[k] = ys[k] → xs.take (k + 1) = ys.take (k + 1)) := Lib.hid (fun e => by rw [hT1, hT2, HT.out, e])
        have HNo : Hid (xs[k] ≠ ys[k] → D = false) := Lib.hid (fun e => by rw [HD.out]; exact decide_eq_false (take_ne hk1 hk2 e))
        have hr0 : wr.rangeAt b0 o0 (vC xs[k]) := hcell0
        have hr1 : wr.rangeAt b1 o1 (vC ys[k]) := hcell1
        clear hcell0 hcell1 hT1 hT2
        generalize xs[k] = x at *
        generalize ys[k] = y at *
        have hP : wr.drew.rangeAt b0 o0 (vC x) ∧ wr.drew.rangeAt b1 o1 (vC y) := ⟨hr0, hr1⟩
        clear hr0 hr1 hk1 hk2
        go_wp2_with fail
        refine wp_region_G 99 (fun w' => w'.rangeAt b0 o0 (vC x) ∧ w'.rangeAt b1 o1 (vC y)) (fun _ => True) (by kernel_rfl) hP trivial (fun _ => ?_)
        refine wpAnyG_take0 (i := 0) (v := .slice a1 n c1) rfl (by kernel_rfl) (fun _ _ _ h => h) (.inl ⟨by rfl, fun w hw => by go_simp⟩) (InvG.mk hP trivial) ?_
        refine fSxEqA9_26 ?_
        refine wpAnyG_take0 (i := 1) (v := .int .i64 k) rfl (by kernel_rfl) (fun _ _ _ h => h) (.inl ⟨by rfl, fun w hw => by go_simp⟩) (InvG.mk hP trivial) ?_
        refine fSxEqA9_26 ?_
        refine wpAnyG_take0 (i := 2) (v := .pointer (some ⟨b0, o0, none⟩)) rfl (by kernel_rfl) (fun _ _ _ h => h) (.inl ⟨by rfl, fun w hw => by have hi := hidx0; clear hw; go_simp⟩) (InvG.mk hP trivial) ?_
        refine fSxEqA9_26 ?_
        refine wpAnyG_take0 (i := 3) (v := .agg (vC x).toArray) rfl (by kernel_rfl) (fun _ _ _ h => h) (yieldsIf_load_mid (by rfl) 148 _ rfl b0 o0 (by go_simp) (vC x) _ (fun w h => h.1) Tryz.underlying148 rfl infoVl) (InvG.mk hP trivial) ?_
        refine fSxEqA9_26 ?_
        refine wpAnyG_take0 (i := 4) (v := .slice a2 n c2) rfl (by kernel_rfl) (fun _ _ _ h => h) (.inl ⟨by rfl, fun w hw => by go_simp⟩) (InvG.mk hP trivial) ?_
        refine fSxEqA9_26 ?_
        refine wpAnyG_take0 (i := 5) (v := .int .i64 k) rfl (by kernel_rfl) (fun _ _ _ h => h) (.inl ⟨by rfl, fun w hw => by go_simp⟩) (InvG.mk hP trivial) ?_
        refine fSxEqA9_26 ?_
        refine wpAnyG_take0 (i := 6) (v := .pointer (some ⟨b1, o1, none⟩)) rfl (by kernel_rfl) (fun _ _ _ h => h) (.inl ⟨by rfl, fun w hw => by have hi := hidx1; clear hw; go_simp⟩) (InvG.mk hP trivial) ?_
        refine fSxEqA9_26 ?_
        refine wpAnyG_take0 (i := 7) (v := .agg (vC y).toArray) rfl (by kernel_rfl) (fun _ _ _ h => h) (yieldsIf_load_mid (by rfl) 148 _ rfl b1 o1 (by go_simp) (vC y) _ (fun w h => h.2) Tryz.underlying148 rfl infoVl) (InvG.mk hP trivial) ?_
        refine fSxEqA9_26 ?_
        refine wpAnyG_take0 (i := 8) (v := .bool (!decide (x = y))) rfl (by kernel_rfl) (fun _ _ _ h => h) (.inl ⟨by rfl, fun w hw => by have hq := neqSV x y; have hG : Tryz.prog.eqGuardType Tryz.prog.depth 148 = false := (by kernel_rfl); clear hw; go_simp⟩) (InvG.mk hP trivial) ?_
        refine fSxEqA9_26 ?_
        refine wpAnyG_done (by kernel_rfl) ?_ _
        have HW2 : Hid (Below w.heap.size w wr.drew) := Lib.hid HW.out.drew
        clear hP hidx0 hidx1
        by_cases hxy : x = y
        · have HTn := Lib.hid (HNx.out hxy)
          rw [decide_eq_true hxy]
          clear hxy HNx HNo
          go_wp2_with fail
          go_roundw
          case rel => exact ⟨k + 1, by omega, by go_num, HTn, HW2⟩
          case measure => simp [intOf]; omega
        · have HDf := Lib.hid (HNo.out hxy)
          rw [decide_eq_false hxy]
          clear hxy HNx HNo
          go_wp2_with fail
          go_ret
          rw [HDf.out]
          exact ⟨rfl, HW2.out⟩
      · obtain rfl : n = k := by omega
        have HDt : Hid (D = true) := Lib.hid (by rw [HD.out]; exact decide_eq_true (take_eq_all HT.out Hn1.out Hn2.out))
        go_wp2_with fail
        go_ret
        rw [HDt.out]
        exact ⟨rfl, HW.out⟩
  · have hz : (((xs.length : Nat) : Int) != ((ys.length : Nat) : Int)) = true := by simp; omega
    have hz2 : ¬ ((xs.length : Nat) : Int) = ((ys.length : Nat) : Int) := by omega
    have hz3 : (((xs.length : Nat) : Int) == ((ys.length : Nat) : Int)) = false := beq_eq_false_iff_ne.2 hz2
    rw [decide_eq_false (fun e => hl (congrArg List.length e))]
    clear hl
    go_enter Tryz.func85, Tryz.ntmps85
    go_wp2_with fail
    go_ret
    exact ⟨rfl, Below.refl _ _⟩

end Go.Proofs.YtiofhfcohhfihaaGreatDoor

namespace Go.Proofs.YtiofhfcohhfihaaGreatDoor
open Go.RowKit
set_option linter.unusedVariables false
set_option linter.unusedSimpArgs false

theorem fScopesTablesLawA6_100 {P : Program} {md : Region.Mode} {ops : Array Oper} {Q : Exit → Act → World → Prop} {P0 P1 : World → Prop} {fin fuel : Nat} {b0 b1 b2 b3 b4 b5 : Bool} {x0 x1 x2 x3 x4 x5 x6 x7 x8 x9 x10 x11 x12 x13 x14 x15 x16 x17 x18 x19 x20 x21 x22 x23 x24 x25 x26 x27 x28 x29 x30 x31 x32 x33 x34 x35 x36 x37 x38 x39 x40 x41 x42 x43 x44 x45 x46 x47 x48 x49 x50 x51 x52 x53 x54 x55 x56 x57 x58 x59 x60 x61 x62 x63 x64 x65 x66 x67 x68 x69 x70 x71 x72 x73 x74 x75 x76 x77 x78 x79 x80 x81 x82 x83 x84 x85 x86 x87 x88 x89 x90 x91 x92 x93 x94 x95 x96 x97 x98 x99 : Value} {d} {w : World} (h : wpAnyG P md ops Q P0 P1 fin fuel #[b0, b1, b2, b3, b4, b5] ⟨#[x0, x1, x2, x3, x4, x5, x6, x7, x8, x9, x10, x11, x12, x13, x14, x15, x16, x17, x18, x19, x20, x21, x22, x23, x24, x25, x26, x27, x28, x29, x30, x31, x32, x33, x34, x35, x36, x37, x38, x39, x40, x41, x42, x43, x44, x45, x46, x47, x48, x49, x50, x51, x52, x53, x54, x55, x56, x57, x58, x59, x60, x61, x62, x63, x64, x65, x66, x67, x68, x69, x70, x71, x72, x73, x74, x75, x76, x77, x78, x79, x80, x81, x82, x83, x84, x85, x86, x87, x88, x89, x90, x91, x92, x93, x94, x95, x96, x97, x98, x99], d⟩ w) : wpAnyG P md ops Q P0 P1 fin fuel #[b0, b1, b2, b3, b4, b5] ⟨#[x0, x1, x2, x3, x4, x5, x6, x7, x8, x9, x10, x11, x12, x13, x14, x15, x16, x17, x18, x19, x20, x21, x22, x23, x24, x25, x26, x27, x28, x29, x30, x31, x32, x33, x34, x35, x36, x37, x38, x39, x40, x41, x42, x43, x44, x45, x46, x47, x48, x49, x50, x51, x52, x53, x54, x55, x56, x57, x58, x59, x60, x61, x62, x63, x64, x65, x66, x67, x68, x69, x70, x71, x72, x73, x74, x75, x76, x77, x78, x79, x80, x81, x82, x83, x84, x85, x86, x87, x88, x89, x90, x91, x92, x93, x94, x95, x96, x97, x98, x99], d⟩ w := h

theorem eqGuardRTy2 : Tryz.prog.eqGuardType Tryz.prog.depth 62 = false := by kernel_rfl
theorem neqSelfR (x : Sc.Ty) (w : World) : (binOp .neq 62 (.agg (tyC x).toArray) (.agg (tyC x).toArray)).run Tryz.prog w = .ok (.bool false) w := by
  have h := neqRTy x x w
  rw [decide_eq_true rfl] at h
  exact h
def strRow (v : Value) (l : List Lx.Bs) : ORow := ⟨9, 1, v, l.length, l.flatMap sC⟩
theorem rows_two (w : World) : Rows w.heap.size ((w.alloc (.cells #[] 9)).alloc (.cells #[] 9)) [strRow (.slice (some ⟨w.heap.size, 0, none⟩) 0 0) [], strRow (.slice (some ⟨w.heap.size + 1, 0, none⟩) 0 0) []] := by
  have e1 : (w.alloc (.cells #[] 9)).heap.size = w.heap.size + 1 := by simp
  have h1 := World.ownsRow_lit (base := w.heap.size) (e := 9) (size := 1) w #[] 0 (Nat.le_refl _) (by decide) rfl
  have h2 := World.ownsRow_lit (base := w.heap.size) (e := 9) (size := 1) (w.alloc (.cells #[] 9)) #[] 0 (by omega) (by decide) rfl
  rw [e1] at h2
  refine ⟨fun r hr => ?_, ?_⟩
  · simp only [List.mem_cons, List.not_mem_nil, or_false] at hr
    rcases hr with rfl | rfl
    · exact h1.alloc _
    · exact h2
  · refine List.pairwise_cons.2 ⟨fun r hr => ?_, List.pairwise_singleton _ _⟩
    rw [List.mem_singleton.1 hr]
    right
    intro e
    have h : w.heap.size = w.heap.size + 1 := Option.some.inj e
    omega

set_option maxHeartbeats 16000000 in
set_option maxRecDepth 100000 in
theorem scopesTables_main (A : Nat → Addr) (s : ByteArray) (w : World) (hne : NE A w) (hVD : VarsD A w) (hE : ETy w) (hm : s.size ≤ maxLen) :
    Calls Tryz.prog 7 #[.string s] w fun e w' => e = .returned (.bool true) ∧ Below w.heap.size w w' := by
  have hV : VarsU A w := ⟨hVD, hne.cell 10 (by decide)⟩
  have HA := Lib.hid (alive09 A w hV)
  have HV := Lib.hid hV; have HNE := Lib.hid hne; have HET := Lib.hid hE
  have Hm := Lib.hid hm
  unfold maxLen at hm
  by_cases h1 : 5000 < s.size
  · have hbI : (5000 : Int) < (s.size : Int) := by omega
    clear h1 hV hne hVD hE
    go_enter Tryz.func7, Tryz.ntmps7
    go_wp2_with fail
    refine HA.out.mono ?_
    rintro e w1 ⟨rfl, hb1⟩
    go_wp2_with fail
    go_ret
    exact ⟨rfl, hb1⟩
  have hI1 : (s.size : Int) ≤ 5000 := by omega
  have hI1' : ¬ (5000 : Int) < (s.size : Int) := by omega
  clear h1 hV hne hVD hE
  go_enter Tryz.func7, Tryz.ntmps7
  go_wp2_with fail
  refine HA.out.mono ?_
  rintro e w1 ⟨rfl, hb1⟩
  have HV1 := Lib.hid (HV.out.keep hb1)
  have Hb1 := Lib.hid hb1
  have HS1 := Lib.hid (spost_any A s w1 HV1.out.d Hm.out)
  unfold SPost at HS1
  clear hb1 HA
  go_wp2_with fail
  refine HS1.out.mono ?_
  rintro e w2 ⟨hb2, ⟨g2, rfl⟩ | ⟨f, cs, rfl, hf, hd, hfew, _⟩⟩
  · have Hb2 := Lib.hid (Hb1.out.trans (hb2.mono Hb1.out.size))
    clear hb2
    go_upto_region 6 with (first
      | (refine wpList_alloc_lay rfl 31 rfl zFl zeroFl ?_; (intro w4 g4 hg4 hB4 hb4))
      | (refine wpList_store_all rfl 31 _ _ rfl g4 zFl rfl rfl zFl hB4 infoFl rfl (by decide) ?_; (intro w5 hB5 hgr5; have hb5 := Below.grown hb4 hgr5 hb4.size (fun _ e => by cases e; exact hg4); clear hb4 hgr5 hB4)))
    go_wp2_with fail
    go_ret
    exact ⟨rfl, Hb2.out.trans (hb5.mono Hb2.out.size)⟩
  have Hb2 := Lib.hid (Hb1.out.trans (hb2.mono Hb1.out.size))
  have Hf := Lib.hid hf; have Hd := Lib.hid hd; have Hfew := Lib.hid hfew
  have Hcs := Lib.hid (fil_form hf)
  clear hb2 hf hd hfew HS1
  go_upto_region 6 with (first
    | (refine wpList_alloc_lay rfl 31 rfl zFl zeroFl ?_; (intro w3 gF hgF hB3 hb3))
    | (refine wpList_store_all rfl 31 _ _ rfl gF cs rfl rfl zFl hB3 ?_ ?_ ?_ ?_; (· rw [Hcs.out.1]; exact infoFl); (· exact Hcs.out.1); (· exact Hcs.out.2); (intro w4 hB4 hgr4; have hb4 := Below.grown hb3 hgr4 hb3.size (fun _ e => by cases e; exact hgF); clear hb3 hgr4 hB3)))
  have Hf4 := Lib.hid (Hf.out.mono (below_le hb4))
  have Hb4 := Lib.hid (Hb2.out.trans (hb4.mono Hb2.out.size))
  have HB4 := Lib.hid hB4
  have hW4 := hB4.whole
  have HS := Lib.hid (scopes_of_any A f cs w4 (HV.out.keep Hb4.out) Hd.out Hf4.out)
  have HR := Lib.hid (fun h0 cs' w' hle hf' => rof09_any h0 f cs' w' hle Hd.out Hfew.out hf')
  have HO := Lib.hid (fun h0 w' hle hf' => Of_any h0 f cs w' hle hf')
  have HU := Lib.hid (table_uniq f); have Hl := Lib.hid (table_few f); have HN := Lib.hid (fun x => add_num [] (Sc.raws f) x)
  change Hid (∀ x, (Sc.table f).2 = some x → x.1 = 11 ∨ x.1 = 3) at HN
  clear hB4 hb4 hgF
  generalize Sc.table f = r at *
  obtain ⟨l, er⟩ := r
  unfold ScopePost at HS
  unfold RefPost at HR
  unfold TreePost at HO
  cases er with
  | some x =>
    dsimp only at HS HR HN
    have hx : ¬ ((x.1 : Nat) : Int) = 0 := by rcases HN.out x rfl with h | h <;> omega
    have hx1 : x.1 - 1 + 1 = x.1 := by rcases HN.out x rfl with h | h <;> omega
    have hx2 : x.1 - 1 < 19 := by rcases HN.out x rfl with h | h <;> omega
    have hxq : (((x.1 : Nat) : Int) != 0) = true := bne_iff_ne.2 hx
    go_upto_region 9 with (first
      | (refine wpList_load_seg rfl 31 _ rfl _ _ rfl _ _ hW4 Tryz.underlying31 rfl ?_ ?_; (· rw [Hcs.out.1]; exact infoFl))
      | (go_at_call 19; (with_reducible refine HS.out.mono ?_); rintro e w5 ⟨hb5, ev, rfl, gf, rfl, hBf⟩))
    have Hb5 := Lib.hid (Hb4.out.trans (hb5.mono Hb4.out.size))
    have HBf := Lib.hid hBf
    have hW5 := (HB4.out.below hb5 HB4.out.lt).whole
    have HO5 := Lib.hid (HO.out (frag w5) w5 (FLe.refl _) (Hf4.out.mono (below_le hb5)))
    clear hb5 hW4 hBf
    go_upto_region 10 with (first
      | (refine wpList_load_seg rfl 31 _ rfl _ _ rfl _ _ hW5 Tryz.underlying31 rfl ?_ ?_; (· rw [Hcs.out.1]; exact infoFl))
      | (go_at_call 13; (with_reducible refine HO5.out.mono ?_); rintro e w6 ⟨ds, rfl, hf6, hb6⟩; have Hb6 := Lib.hid (Hb5.out.trans (hb6.mono Hb5.out.size)); have HBf6 := Lib.hid (HBf.out.below hb6 HBf.out.lt); have HR6 := Lib.hid (HR.out (frag w6) ds w6 (FLe.refl _) (hf6.mono (fragJ_le (below_le hb6)))); clear hb6 hf6)
      | (go_at_call 20; (with_reducible refine HR6.out.mono ?_); rintro e w7 ⟨hb7, rfl⟩; have Hb7 := Lib.hid (Hb6.out.trans (hb7.mono Hb6.out.size)); have HBf7 := Lib.hid (HBf6.out.below hb7 HBf6.out.lt); clear hb7))
    have HFa := Lib.hid (fault_at A w7 (HNE.out.keep Hb7.out) (HET.out.below Hb7.out) gf (x.1 - 1) x.2.1 x.2.2 hx2 HBf7.out)
    rw [hx1] at HFa
    clear hx1 hx2 hx HR HS HO HN
    generalize ((x.1 : Nat) : Int) = xn at *
    go_wp2_with (go_at_call 28; (with_reducible refine HFa.out.mono ?_); rintro e w8 ⟨rfl, hb8⟩)
    go_ret
    exact ⟨rfl, Hb7.out.trans (hb8.mono Hb7.out.size)⟩
  | none =>
    dsimp only at HS HR HU Hl
    go_upto_region 9 with (first
      | (refine wpList_load_seg rfl 31 _ rfl _ _ rfl _ _ hW4 Tryz.underlying31 rfl ?_ ?_; (· rw [Hcs.out.1]; exact infoFl))
      | (go_at_call 19; (with_reducible refine HS.out.mono ?_); rintro e w5 ⟨hb5, g5, rfl, hT5⟩))
    have Hb5 := Lib.hid (Hb4.out.trans (hb5.mono Hb4.out.size))
    have HT5 := Lib.hid hT5
    have hW5 := (HB4.out.below hb5 HB4.out.lt).whole
    have HO5 := Lib.hid (HO.out (frag w5) w5 (FLe.refl _) (Hf4.out.mono (below_le hb5)))
    clear hb5 hW4 hT5
    go_upto_region 10 with (first
      | (refine wpList_load_seg rfl 31 _ rfl _ _ rfl _ _ hW5 Tryz.underlying31 rfl ?_ ?_; (· rw [Hcs.out.1]; exact infoFl))
      | (go_at_call 13; (with_reducible refine HO5.out.mono ?_); rintro e w6 ⟨ds, rfl, hf6, hb6⟩; have Hb6 := Lib.hid (Hb5.out.trans (hb6.mono Hb5.out.size)); have HT6 := Lib.hid (HT5.out.keep hb6); have HR6 := Lib.hid (HR.out (frag w6) ds w6 (FLe.refl _) (hf6.mono (fragJ_le (below_le hb6)))); clear hb6 hf6)
      | (go_at_call 20; (with_reducible refine HR6.out.mono ?_); rintro e w7 ⟨hb7, v7, rfl, hv7⟩; have Hb7 := Lib.hid (Hb6.out.trans (hb7.mono Hb6.out.size)); have HT7 := Lib.hid (HT6.out.keep hb7); have Hv7 := Lib.hid hv7; clear hb7 hv7))
    have HFa := Lib.hid (fault_nil w7)
    have HTy := Lib.hid (fun w' (hb : Below w7.heap.size w7 w') => types_any w4 g5 [] l w' (HT7.out.keep hb) Hl.out)
    obtain ⟨a7, c7, rfl, _, _, _⟩ := Hv7.out.len
    unfold TypesPost at HTy
    clear HR HS HO HR6 HO5 HU HN
    go_upto_region 15 with (first
      | (go_at_call 28; (with_reducible refine HFa.out.mono ?_); rintro e w8 ⟨rfl, hb8⟩; have HT8 := Lib.hid hb8; clear hb8)
      | (go_at_call 26; (with_reducible refine (HTy.out _ HT8.out).mono ?_); rintro e w9 ⟨v9, rfl, hv9, hb9⟩))
    have Hb79 : Hid (Below w7.heap.size w7 w9) := Lib.hid (HT8.out.trans (hb9.mono HT8.out.size))
    have Hv9 := Lib.hid hv9
    obtain ⟨a9, c9, rfl, _, _, _⟩ := hv9.len
    obtain ⟨m, hm9⟩ : ∃ m, m = l.length := ⟨_, rfl⟩
    rw [← hm9] at Hv9 Hv7 Hl ⊢
    have Hm9 := Lib.hid hm9.symm
    have hms : m ≤ 9223372036854775807 := by have := Hl.out; omega
    have HRows := Lib.hid (rows_two w9)
    have hba : Below w9.heap.size w9 ((w9.alloc (.cells #[] 9)).alloc (.cells #[] 9)) := ((Below.refl _ _).alloc (Nat.le_refl _) _).alloc (by simp) _
    have Hba := Lib.hid hba
    clear hv9 hb9 hm9 HTy hba
    go_wp2_with fail
    go_loopw [11, 12, 66] (fun mv ev iv wr => ∃ k : Nat, k ≤ m ∧ iv = .int .i64 k ∧ Hid (Rows w9.heap.size wr [strRow mv (namesOf (l.take k) false), strRow ev (namesOf (l.take k) true)]) ∧ Hid (Below w9.heap.size w9 wr)) (fun _ _ iv _ => m - (intOf iv).toNat)
    case atStart => exact ⟨0, Nat.zero_le _, rfl, HRows, Hba⟩
    case round =>
      obtain ⟨k, hkm, rfl, HRo, HB⟩ := hrel
      by_cases hk : k < m
      · have hk1 : k < l.length := by rw [Hm9.out]; exact hk
        obtain ⟨d0, o0, hd0, hidx, hcell⟩ := FlatV.at (n := m) (cap := c9) (a := a9) (Hv9.out.mono (below_le HB.out)) tyC_len (by decide) (i := k) hk1 Tryz.underlying70 sizeTys
        have hr : wr.rangeAt d0 o0 (tyC l[k]) := hcell
        obtain ⟨d1, o1, hd1, hidx1, hcell1⟩ := FlatV.at (n := m) (cap := c7) (a := a7) ((Hv7.out.mono (below_le Hb79.out)).mono (below_le HB.out)) tyC_len (by decide) (i := k) hk1 Tryz.underlying55 sizeRTys
        have hr1 : wr.rangeAt d1 o1 (tyC l[k]) := hcell1
        have HN0 := Lib.hid (namesOf_take l false hk1)
        have HN1 := Lib.hid (namesOf_take l true hk1)
        have Hfew0 : Hid ((namesOf (l.take k) false).length ≤ 40 ∧ (namesOf (l.take k) true).length ≤ 40) := Lib.hid (by
          have h1 := namesOf_len (l.take k) false
          have h2 := namesOf_len (l.take k) true
          rw [List.length_take] at h1 h2
          have := Hl.out
          omega)
        clear hcell hcell1
        generalize l[k] = y at *
        clear hk1
        go_upto_region 21 with (first
          | (refine wpList_load_seg rfl 59 _ rfl _ _ rfl _ _ hr Tryz.underlying59 rfl infoTy ?_)
          | (refine wpList_alloc_lay rfl 59 rfl zTy zeroTy ?_; (intro w10 g14 hg hB hb; clear hr))
          | (refine wpList_store_all rfl 59 _ _ rfl g14 (tyC y) rfl rfl zTy hB infoTy rfl (one_tyC _) ?_; (intro w11 hB11 hgr; have hb11 := Below.grown hb hgr hb.size (fun _ e => by cases e; exact hg); clear hb hgr hB hg)))
        have hP : Blk w11.drew g14 (tyC y) ∧ w11.drew.rangeAt d1 o1 (tyC y) := ⟨hB11, range_below hr1 hb11.drew hd1⟩
        have Hb11 : Hid (Below w9.heap.size w9 w11.drew) := Lib.hid (HB.out.trans (hb11.drew.mono HB.out.size))
        have HRo11 : Hid (Rows w9.heap.size w11.drew [strRow u11 (namesOf (l.take k) false), strRow u12 (namesOf (l.take k) true)]) := Lib.hid (HRo.out.grown (X := none) (grown_of_below hb11.drew none) (fun k e => by cases e))
        have HB11 : Hid (Blk w11.drew g14 (tyC y)) := Lib.hid hB11
        have hq := neqSelfR y
        have hG := eqGuardRTy2
        clear hr1 hb11 hB11 hidx hd0 hd1
        refine wp_region_G 99 (fun w' => Blk w' g14 (tyC y) ∧ w'.rangeAt d1 o1 (tyC y)) (fun _ => True) (by kernel_rfl) hP trivial (fun _ => ?_)
        refine fScopesTablesLawA6_100 ?_
        refine wpAnyG_take0 (i := 0) (v := .agg (tyC y).toArray) rfl (by kernel_rfl) (fun _ _ _ h => h) (yieldsIf_load_mid (by rfl) 59 _ rfl g14 0 (by go_simp) (tyC y) _ (fun w h => h.1.whole) Tryz.underlying59 rfl infoTy) (InvG.mk hP trivial) ?_
        refine fScopesTablesLawA6_100 ?_
        refine wpAnyG_take0 (i := 1) (v := .slice a7 m c7) rfl (by kernel_rfl) (fun _ _ _ h => h) (.inl ⟨by rfl, fun w hw => by go_simp⟩) (InvG.mk hP trivial) ?_
        refine fScopesTablesLawA6_100 ?_
        refine wpAnyG_take0 (i := 2) (v := .int .i64 k) rfl (by kernel_rfl) (fun _ _ _ h => h) (.inl ⟨by rfl, fun w hw => by go_simp⟩) (InvG.mk hP trivial) ?_
        refine fScopesTablesLawA6_100 ?_
        refine wpAnyG_take0 (i := 3) (v := .pointer (some ⟨d1, o1, none⟩)) rfl (by kernel_rfl) (fun _ _ _ h => h) (.inl ⟨by rfl, fun w hw => by have hi := hidx1; clear hw; go_simp⟩) (InvG.mk hP trivial) ?_
        refine fScopesTablesLawA6_100 ?_
        refine wpAnyG_take0 (i := 4) (v := .agg (tyC y).toArray) rfl (by kernel_rfl) (fun _ _ _ h => h) (yieldsIf_load_mid (by rfl) 62 _ rfl d1 o1 (by go_simp) (tyC y) _ (fun w h => h.2) Tryz.underlying62 rfl infoRTy) (InvG.mk hP trivial) ?_
        refine fScopesTablesLawA6_100 ?_
        refine wpAnyG_take0 (i := 5) (v := .bool false) rfl (by kernel_rfl) (fun _ _ _ h => h) (.inl ⟨by rfl, fun w hw => by have hq2 := hq; have hG2 := hG; clear hw; go_simp⟩) (InvG.mk hP trivial) ?_
        refine fScopesTablesLawA6_100 ?_
        refine wpAnyG_done (by kernel_rfl) ?_ _
        cases hye : y.enum
        · have hen : y.enum = false := hye
          have y1 : w11.drew.cell? ⟨g14, 1, none⟩ = some (.bool false) := by have := HB11.out.cell (o := 1) (u := .bool y.enum) rfl; rw [hen] at this; exact this
          have y0 : w11.drew.cell? ⟨g14, 0, none⟩ = some (.string (toB y.full)) := HB11.out.cell (o := 0) rfl
          have e0 : namesOf (l.take (k + 1)) false = namesOf (l.take k) false ++ [y.full] := by rw [HN0.out, if_pos hen]
          have e1 : namesOf (l.take (k + 1)) true = namesOf (l.take k) true := by rw [HN1.out, if_neg (by rw [hen]; decide)]
          have HE0 := Lib.hid e0; have HE1 := Lib.hid e1
          have HOw := Lib.hid (HRo11.out.own (strRow u11 (namesOf (l.take k) false)) (by simp))
          unfold strRow at HOw
          dsimp only at HOw
          clear hP hq hG hidx1 hye hen e0 e1
          go_wp2_with (first
            | (refine wpList_buildSlice1 rfl 44 9 _ rfl (sC y.full) (.string (toB y.full)) rfl Tryz.underlying44 zinfoStr (show 0 < 1 by decide) (show 1 ≤ 1000 by decide) rfl ?_)
            | (at_builtin; refine wpList_append_own1 T_St rfl _ _ rfl (sC y.full) rfl (B := w9.heap.size) (n := (namesOf (l.take k) false).length) (v := u11) HOw.out rfl rfl (one_sC9 _) ?_ Hb11.out.size ?_; (· have := Hfew0.out.1; omega); (intro v13 w13 hown13 hgr13 hat13 hone13)))
          have HRn : Hid (Rows w9.heap.size w13 [strRow v13 (namesOf (l.take k) false ++ [y.full]), strRow u12 (namesOf (l.take k) true)]) := Lib.hid (by
            have h1 := (Rows.push (L := []) (M := [strRow u12 (namesOf (l.take k) true)]) (r := strRow u11 (namesOf (l.take k) false)) HRo11.out hown13 hgr13 hat13).1
            have e2 : strRow v13 (namesOf (l.take k) false ++ [y.full]) = ⟨9, 1, v13, (namesOf (l.take k) false).length + 1, (namesOf (l.take k) false).flatMap sC ++ sC y.full⟩ := by
              unfold strRow
              rw [List.length_append, List.flatMap_append]
              simp
            rw [e2]; exact h1)
          have Hb13 : Hid (Below w9.heap.size w9 w13) := Lib.hid (Below.grown Hb11.out hgr13 Hb11.out.size (fun k hk => (HOw.out.lt k hk).1))
          clear hown13 hgr13 hat13
          go_roundw
          case rel => exact ⟨k + 1, by omega, by go_num, Lib.hid (by rw [HE0.out, HE1.out]; exact HRn.out), Hb13⟩
          case measure => simp [intOf]; omega
        · have hen : y.enum = true := hye
          have y1 : w11.drew.cell? ⟨g14, 1, none⟩ = some (.bool true) := by have := HB11.out.cell (o := 1) (u := .bool y.enum) rfl; rw [hen] at this; exact this
          have y0 : w11.drew.cell? ⟨g14, 0, none⟩ = some (.string (toB y.full)) := HB11.out.cell (o := 0) rfl
          have e0 : namesOf (l.take (k + 1)) true = namesOf (l.take k) true ++ [y.full] := by rw [HN1.out, if_pos hen]
          have e1 : namesOf (l.take (k + 1)) false = namesOf (l.take k) false := by rw [HN0.out, if_neg (by rw [hen]; decide)]
          have HE0 := Lib.hid e0; have HE1 := Lib.hid e1
          have HOw := Lib.hid (HRo11.out.own (strRow u12 (namesOf (l.take k) true)) (by simp))
          unfold strRow at HOw
          dsimp only at HOw
          clear hP hq hG hidx1 hye hen e0 e1
          go_wp2_with (first
            | (refine wpList_buildSlice1 rfl 44 9 _ rfl (sC y.full) (.string (toB y.full)) rfl Tryz.underlying44 zinfoStr (show 0 < 1 by decide) (show 1 ≤ 1000 by decide) rfl ?_)
            | (at_builtin; refine wpList_append_own1 T_St rfl _ _ rfl (sC y.full) rfl (B := w9.heap.size) (n := (namesOf (l.take k) true).length) (v := u12) HOw.out rfl rfl (one_sC9 _) ?_ Hb11.out.size ?_; (· have := Hfew0.out.2; omega); (intro v13 w13 hown13 hgr13 hat13 hone13)))
          have HRn : Hid (Rows w9.heap.size w13 [strRow u11 (namesOf (l.take k) false), strRow v13 (namesOf (l.take k) true ++ [y.full])]) := Lib.hid (by
            have h1 := (Rows.push (L := [strRow u11 (namesOf (l.take k) false)]) (M := []) (r := strRow u12 (namesOf (l.take k) true)) HRo11.out hown13 hgr13 hat13).1
            have e2 : strRow v13 (namesOf (l.take k) true ++ [y.full]) = ⟨9, 1, v13, (namesOf (l.take k) true).length + 1, (namesOf (l.take k) true).flatMap sC ++ sC y.full⟩ := by
              unfold strRow
              rw [List.length_append, List.flatMap_append]
              simp
            rw [e2]; exact h1)
          have Hb13 : Hid (Below w9.heap.size w9 w13) := Lib.hid (Below.grown Hb11.out hgr13 Hb11.out.size (fun k hk => (HOw.out.lt k hk).1))
          clear hown13 hgr13 hat13
          go_roundw
          case rel => exact ⟨k + 1, by omega, by go_num, Lib.hid (by rw [HE0.out, HE1.out]; exact HRn.out), Hb13⟩
          case measure => simp [intOf]; omega
      · obtain rfl : m = k := by omega
        have htk : l.take m = l := List.take_of_length_le (by rw [Hm9.out]; exact Nat.le_refl _)
        have Hv : Hid ((namesOf l false).length ≤ 10000 ∧ (namesOf l true).length ≤ 10000) := Lib.hid (by
          have h1 := namesOf_len l false
          have h2 := namesOf_len l true
          have h3 := Hm9.out
          have h4 := Hl.out
          omega)
        have HF0 : Hid (FlatV sC (frag wr) u11 (namesOf l false)) := Lib.hid (by
          have h1 := HRo.out.own (strRow u11 (namesOf (l.take m) false)) (by simp)
          rw [htk] at h1
          have h2 := FlatV.of_owns (f := sC) (E := []) h1 rfl (.inr (by simp))
          rw [fragE_nil] at h2; exact h2)
        have HF1 : Hid (FlatV sC (frag wr) u12 (namesOf l true)) := Lib.hid (by
          have h1 := HRo.out.own (strRow u12 (namesOf (l.take m) true)) (by simp)
          rw [htk] at h1
          have h2 := FlatV.of_owns (f := sC) (E := []) h1 rfl (.inr (by simp))
          rw [fragE_nil] at h2; exact h2)
        obtain ⟨p0, q0, rfl, _, _, _⟩ := HF0.out.len
        obtain ⟨p1, q1, rfl, _, _, _⟩ := HF1.out.len
        have HTr := Lib.hid ((HT7.out.keep Hb79.out).keep HB.out)
        have HM := Lib.hid (messages9_any w4 g5 [] l wr HTr.out (by rw [Hm9.out]; exact Hl.out))
        have HEn := Lib.hid (fun w' (hb : Below wr.heap.size wr w') => enums9_any w4 g5 [] l w' (HTr.out.keep hb) (by rw [Hm9.out]; exact Hl.out))
        have HSa := Lib.hid (fun v w' (hb : Below wr.heap.size wr w') (hv : FlatV sC (frag w') v (namesOf l false)) => sameTexts_any v _ (namesOf l false) (namesOf l false) w' ⟨hv, Hv.out.1⟩ ⟨HF0.out.mono (below_le hb), Hv.out.1⟩)
        have HSb := Lib.hid (fun v w' (hb : Below wr.heap.size wr w') (hv : FlatV sC (frag w') v (namesOf l true)) => sameTexts_any v _ (namesOf l true) (namesOf l true) w' ⟨hv, Hv.out.2⟩ ⟨HF1.out.mono (below_le hb), Hv.out.2⟩)
        simp only [decide_true] at HSa HSb
        unfold StrsPost at HM HEn
        have HW9 := Lib.hid ((Hb7.out.trans (Hb79.out.mono Hb7.out.size)).trans (HB.out.mono (Hb7.out.trans (Hb79.out.mono Hb7.out.size)).size))
        clear HRo htk hkm hk HRows Hba
        go_wp2_with (first
          | (go_at_call 30; (with_reducible refine HM.out.mono ?_); rintro e z1 ⟨m1, rfl, hm1, hz1⟩; have Z1 := Lib.hid hz1; have HSa1 := Lib.hid (HSa.out m1 z1 hz1 hm1); obtain ⟨p2, q2, rfl, _, _, _⟩ := hm1.len; clear hz1 hm1)
          | (go_at_call 29; (with_reducible refine HSa1.out.mono ?_); rintro e z2 ⟨rfl, hz2⟩; have Z2 := Lib.hid (Z1.out.trans (hz2.mono Z1.out.size)); have HEn2 := Lib.hid (HEn.out z2 Z2.out); clear hz2)
          | (go_at_call 31; (with_reducible refine HEn2.out.mono ?_); rintro e z3 ⟨m3, rfl, hm3, hz3⟩; have Z3 := Lib.hid (Z2.out.trans (hz3.mono Z2.out.size)); have HSb3 := Lib.hid (HSb.out m3 z3 Z3.out hm3); obtain ⟨p4, q4, rfl, _, _, _⟩ := hm3.len; clear hz3 hm3)
          | (go_at_call 29; (with_reducible refine HSb3.out.mono ?_); rintro e z4 ⟨rfl, hz4⟩; have Z4 := Lib.hid (Z3.out.trans (hz4.mono Z3.out.size)); clear hz4))
        go_ret
        exact ⟨rfl, HW9.out.trans (Z4.out.mono HW9.out.size)⟩

end Go.Proofs.YtiofhfcohhfihaaGreatDoor

namespace Go.Proofs.YtiofhfcohhfihaaGreatDoor
open Go.ChangeShapes Go.WideShapes Go.ChangeAt Go.RowKit
set_option linter.unusedVariables false

theorem lf_rt : (Tryz.prog.cutTypes.find? (·.1 == "internal/reflectlite.rtype")).map (·.2) = some 228 := by kernel_rfl
theorem lf_oneRow : ((List.range 307).filter fun t => Tryz.prog.rowNamed t [101, 114, 114, 111, 114]) = [25] := by kernel_rfl
theorem lf_size : Tryz.prog.types.size = 307 := by kernel_rfl
theorem lf_handle : typeHandle Tryz.prog 25 = .pointer (some ⟨26, 25, none⟩) := by kernel_rfl
theorem of_laid {W : World} (h : laidMetH Tryz.prog [("math/bits.deBruijn32tab", Rows.laid_math_bits_deBruijn32tab), ("math/bits.deBruijn64tab", Rows.laid_math_bits_deBruijn64tab), ("internal/strconv.uint64pow10", Rows.laid_internal_strconv_uint64pow10), ("errors.errorType", Rows.laid_errors_errorType), ("redline/api.ErrRange", Rows.laid_redline_api_ErrRange), ("redline/api.ErrShort", Rows.laid_redline_api_ErrShort), ("redline/api.ErrLong", Rows.laid_redline_api_ErrLong), ("redline/api.ErrVarint", Rows.laid_redline_api_ErrVarint), ("redline/api.ErrTag", Rows.laid_redline_api_ErrTag), ("redline/api.ErrGroup", Rows.laid_redline_api_ErrGroup), ("redline/api.ErrRune", Rows.laid_redline_api_ErrRune), ("redline/api.ErrDepth", Rows.laid_redline_api_ErrDepth), ("redline/api.ErrForm", Rows.laid_redline_api_ErrForm), ("redline/api.ErrName", Rows.laid_redline_api_ErrName), ("redline/api.ErrDup", Rows.laid_redline_api_ErrDup), ("redline/api.ErrKind", Rows.laid_redline_api_ErrKind), ("redline/api.ErrClash", Rows.laid_redline_api_ErrClash), ("redline/api.ErrNone", Rows.laid_redline_api_ErrNone), ("redline/api.ErrFull", Rows.laid_redline_api_ErrFull), ("redline/api.ErrState", Rows.laid_redline_api_ErrState), ("redline/api.ErrPower", Rows.laid_redline_api_ErrPower), ("redline/api.ErrSum", Rows.laid_redline_api_ErrSum), ("redline/api.ErrConflict", Rows.laid_redline_api_ErrConflict), ("strconv.ErrRange", Rows.laid_strconv_ErrRange), ("strconv.ErrSyntax", Rows.laid_strconv_ErrSyntax)] W) (hsh : W.ShapedOpen Tryz.prog) : ∃ A, NE A W ∧ VarsD A W ∧ ETy W := by
  have h19 : laidMetH Tryz.prog [("redline/api.ErrRange", Rows.laid_redline_api_ErrRange), ("redline/api.ErrShort", Rows.laid_redline_api_ErrShort), ("redline/api.ErrLong", Rows.laid_redline_api_ErrLong), ("redline/api.ErrVarint", Rows.laid_redline_api_ErrVarint), ("redline/api.ErrTag", Rows.laid_redline_api_ErrTag), ("redline/api.ErrGroup", Rows.laid_redline_api_ErrGroup), ("redline/api.ErrRune", Rows.laid_redline_api_ErrRune), ("redline/api.ErrDepth", Rows.laid_redline_api_ErrDepth), ("redline/api.ErrForm", Rows.laid_redline_api_ErrForm), ("redline/api.ErrName", Rows.laid_redline_api_ErrName), ("redline/api.ErrDup", Rows.laid_redline_api_ErrDup), ("redline/api.ErrKind", Rows.laid_redline_api_ErrKind), ("redline/api.ErrClash", Rows.laid_redline_api_ErrClash), ("redline/api.ErrNone", Rows.laid_redline_api_ErrNone), ("redline/api.ErrFull", Rows.laid_redline_api_ErrFull), ("redline/api.ErrState", Rows.laid_redline_api_ErrState), ("redline/api.ErrPower", Rows.laid_redline_api_ErrPower), ("redline/api.ErrSum", Rows.laid_redline_api_ErrSum), ("redline/api.ErrConflict", Rows.laid_redline_api_ErrConflict)] W := h.filter (fun x => ["redline/api.ErrRange", "redline/api.ErrShort", "redline/api.ErrLong", "redline/api.ErrVarint", "redline/api.ErrTag", "redline/api.ErrGroup", "redline/api.ErrRune", "redline/api.ErrDepth", "redline/api.ErrForm", "redline/api.ErrName", "redline/api.ErrDup", "redline/api.ErrKind", "redline/api.ErrClash", "redline/api.ErrNone", "redline/api.ErrFull", "redline/api.ErrState", "redline/api.ErrPower", "redline/api.ErrSum", "redline/api.ErrConflict"].contains x.1)
  have hpl : laidMetH Tryz.prog [("math/bits.deBruijn32tab", Rows.laid_math_bits_deBruijn32tab), ("math/bits.deBruijn64tab", Rows.laid_math_bits_deBruijn64tab), ("internal/strconv.uint64pow10", Rows.laid_internal_strconv_uint64pow10), ("redline/api.ErrRange", Rows.laid_redline_api_ErrRange), ("redline/api.ErrShort", Rows.laid_redline_api_ErrShort), ("redline/api.ErrLong", Rows.laid_redline_api_ErrLong), ("redline/api.ErrVarint", Rows.laid_redline_api_ErrVarint), ("redline/api.ErrTag", Rows.laid_redline_api_ErrTag), ("redline/api.ErrGroup", Rows.laid_redline_api_ErrGroup), ("redline/api.ErrRune", Rows.laid_redline_api_ErrRune), ("redline/api.ErrDepth", Rows.laid_redline_api_ErrDepth), ("redline/api.ErrForm", Rows.laid_redline_api_ErrForm), ("redline/api.ErrName", Rows.laid_redline_api_ErrName), ("redline/api.ErrDup", Rows.laid_redline_api_ErrDup), ("redline/api.ErrKind", Rows.laid_redline_api_ErrKind), ("redline/api.ErrClash", Rows.laid_redline_api_ErrClash), ("redline/api.ErrNone", Rows.laid_redline_api_ErrNone), ("redline/api.ErrFull", Rows.laid_redline_api_ErrFull), ("redline/api.ErrState", Rows.laid_redline_api_ErrState), ("redline/api.ErrPower", Rows.laid_redline_api_ErrPower), ("redline/api.ErrSum", Rows.laid_redline_api_ErrSum), ("redline/api.ErrConflict", Rows.laid_redline_api_ErrConflict), ("strconv.ErrRange", Rows.laid_strconv_ErrRange), ("strconv.ErrSyntax", Rows.laid_strconv_ErrSyntax)] W := h.filter (fun x => ["math/bits.deBruijn32tab", "math/bits.deBruijn64tab", "internal/strconv.uint64pow10", "redline/api.ErrRange", "redline/api.ErrShort", "redline/api.ErrLong", "redline/api.ErrVarint", "redline/api.ErrTag", "redline/api.ErrGroup", "redline/api.ErrRune", "redline/api.ErrDepth", "redline/api.ErrForm", "redline/api.ErrName", "redline/api.ErrDup", "redline/api.ErrKind", "redline/api.ErrClash", "redline/api.ErrNone", "redline/api.ErrFull", "redline/api.ErrState", "redline/api.ErrPower", "redline/api.ErrSum", "redline/api.ErrConflict", "strconv.ErrRange", "strconv.ErrSyntax"].contains x.1)
  obtain ⟨A, hne⟩ := ne_of_laid h19
  rw [MakeChecks.laidMetH_plain _ _ _ (by kernel_rfl)] at hpl
  obtain ⟨ps, h1, _, hrows⟩ := hpl
  have key := laid_one (P := Tryz.prog) (W := W) Tryz.underlying25 lo_rowE Tryz.underlying264 Tryz.underlying266 rfl rfl Tryz.underlying9 (by kernel_rfl) (by kernel_rfl) _ ps h1 hrows
  obtain ⟨ac, ec⟩ := key "strconv.ErrRange" _ (List.mem_of_getElem? (i := 22) rfl) 22 (by kernel_rfl) (by kernel_rfl)
  have hE : ETy W := by
    obtain ⟨name, u, ty, e1, e2, e3, e4, e5⟩ := (laidMetH_iff.1 h).2 ("errors.errorType", Rows.laid_errors_errorType) (List.mem_filter.2 ⟨List.mem_of_getElem? (i := 3) rfl, by rfl⟩)
    have en : name = [101, 114, 114, 111, 114] := (Option.some.inj e1).symm
    subst en
    obtain rfl := Option.some.inj (lf_rt.symm.trans e2)
    have hm : ty ∈ (List.range 307).filter fun t => Tryz.prog.rowNamed t [101, 114, 114, 111, 114] := List.mem_filter.2 ⟨List.mem_range.2 (by rw [← lf_size]; exact e3), e4⟩
    rw [lf_oneRow] at hm
    obtain rfl := List.mem_singleton.1 hm
    rw [lf_handle] at e5
    have hg : Tryz.prog.globalNamed "errors.errorType" = some 5 := by kernel_rfl
    show W.cell? _ = _
    simpa using World.var?_cell hg e5 0
  exact ⟨A, hne, ⟨⟨hne.cell 0 (by decide), hne.cell 2 (by decide), hne.cell 8 (by decide), ⟨_, _, ec⟩, Tryz.laysM143.s1_3 W hsh⟩, hne.cell 7 (by decide)⟩, hE⟩

theorem scopesTables_walk (W : World) (h : ∃ A, NE A W ∧ VarsD A W ∧ ETy W) (s : ByteArray) (hm : s.size ≤ maxLen) :
    Calls Tryz.prog 7 #[.string s] W fun e w' => e = .returned (.bool true) ∧ Below W.heap.size W w' := by
  obtain ⟨A, hne, hV, hE⟩ := h
  exact scopesTables_main A s W hne hV hE hm

end Go.Proofs.YtiofhfcohhfihaaGreatDoor
