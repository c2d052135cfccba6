/- slices.Clone and spliced of fields and of pairs, walked. -/
import Derived.Test.YtlmbcoecipbblaaGreatDoorGpG
import Derived.Laws.AppendOwnNone
set_option maxRecDepth 100000
set_option maxHeartbeats 4000000
set_option linter.unusedVariables false
set_option linter.unusedSimpArgs false
namespace Go.Proofs.YtlmbcoecipbblaaGreatDoor
open Go.RowKit Go.WideShapes
theorem wpList_append_opt {P : Program} {t e : TypeId} {z : Value} {size bytes : Nat} (T : SliceT P t e z size bytes) {ops : Array Oper} {rest : List Oper} {o : Oper} {a : Act} {Q : Exit → Act → World → Prop} (hgd : o.guard = none) (s x : Operand)
  (ho : o.op = .call { callee := .builtin .append, args := #[s, x], argTypes := #[t, t] }) {W : World} {base n m c : Nat} {ad : Option Addr} {v : Value} {xs news : List Value}
  (hs : a.eval s = v) (hown : W.ownsRow base e size v n xs) (hx : a.eval x = .slice ad m c) (hnil : ad = none → c = 0) (hmc : m ≤ c) (hrow : HRow (frag W) ad news) (hl : news.length = m * size) (h1 : ∀ u ∈ news, u.oneCell' = true)
  (hn : (n + m) * bytes ≤ 140737488355328) (hbase : base ≤ W.heap.size)
  (h : ∀ v' w', w'.ownsRow base e size v' (n + m) (xs ++ news) → W.grownBy w' v.ownBlock → (v'.ownBlock = v.ownBlock ∨ v'.ownBlock = some W.heap.size) → wpList P ops Q rest (a.put o.dst v') w') : wpList P ops Q (o :: rest) a W := by
 cases ad with
 | some p => exact wpList_append_row T hgd s x ho hs hown hx hrow hl h1 hn hbase (fun v' w' h2 h3 h4 _ => h v' w' h2 h3 h4)
 | none =>
  obtain rfl := hnil rfl
  obtain rfl : m = 0 := by omega
  obtain rfl : news = [] := List.eq_nil_of_length_eq_zero (by simpa using hl)
  obtain ⟨i, hi, _⟩ := info_parts T.info
  refine wpList_append_own_none hgd s x t ho base e i size T.und hi v n xs hs hown hx ?_
  exact h v W (by simpa using hown) (World.grownBy.refl W _) (.inl rfl)
theorem one7 {e : List Value} (h : Val7 e) : ∀ u ∈ e, u.oneCell' = true := by
 obtain ⟨xk, xn, xt, xr, xa1, xn1, xc1, xa2, xn2, xc2, xa3, xn3, xc3, rfl⟩ := h
 intro u hu
 simp only [List.mem_cons, List.not_mem_nil, or_false] at hu
 rcases hu with rfl | rfl | rfl | rfl | rfl | rfl | rfl <;> rfl
theorem one8 {e : List Value} (h : Fld8 e) : ∀ u ∈ e, u.oneCell' = true := by
 obtain ⟨m, x, hx, rfl⟩ := h
 intro u hu
 rcases List.mem_cons.1 hu with rfl | hu
 ·rfl
 ·exact one7 hx u hu
theorem one14 {e : List Value} (h : Par14 e) : ∀ u ∈ e, u.oneCell' = true := by
 obtain ⟨x, y, hx, hy, rfl⟩ := h
 intro u hu
 rcases List.mem_append.1 hu with hu | hu
 ·exact one7 hx u hu
 ·exact one7 hy u hu
theorem oneF {es : List (List Value)} {S : List Value → Prop} (hS : ∀ e, S e → ∀ u ∈ e, u.oneCell' = true) (h : ∀ e ∈ es, S e) : ∀ u ∈ es.flatten, u.oneCell' = true := by
 intro u hu
 obtain ⟨e, he, hu⟩ := List.mem_flatten.1 hu
 exact hS e (h e he) u hu
theorem len8 {e : List Value} (h : Fld8 e) : e.length = 8 := by
 obtain ⟨m, x, ⟨xk, xn, xt, xr, xa1, xn1, xc1, xa2, xn2, xc2, xa3, xn3, xc3, rfl⟩, rfl⟩ := h; rfl
theorem len14 {e : List Value} (h : Par14 e) : e.length = 14 := by
 obtain ⟨x, y, ⟨xk, xn, xt, xr, xa1, xn1, xc1, xa2, xn2, xc2, xa3, xn3, xc3, rfl⟩, ⟨yk, yn, yt, yr, ya1, yn1, yc1, ya2, yn2, yc2, ya3, yn3, yc3, rfl⟩, rfl⟩ := h; rfl
theorem flatten_take {s k : Nat} {es : List (List Value)} (h : ∀ e ∈ es, e.length = s) (hk : k ≤ es.length) : (es.take k).flatten = es.flatten.take (k * s) ∧ (es.drop k).flatten = es.flatten.drop (k * s) := by
 have e1 : es.flatten = (es.take k).flatten ++ (es.drop k).flatten := by rw [← List.flatten_append, List.take_append_drop]
 have e2 : (es.take k).flatten.length = k * s := by rw [flatten_len (s := s) (fun e he => h e (List.mem_of_mem_take he)), List.length_take, Nat.min_eq_left hk]
 rw [e1]
 exact ⟨(List.take_left' e2).symm, (List.drop_left' e2).symm⟩
theorem FlatC.take {s : Nat} {h : Frag} {a : Option Addr} {n cap k : Nat} {es : List (List Value)} (hl : FlatC s h (.slice a n cap) es) (hk : k ≤ n) : FlatC s h (.slice a k cap) (es.take k) := by
 obtain ⟨a', cap', e, h1, h2, h0, h3, h4⟩ := hl
 cases e
 have hlen : (es.take k).length = k := by rw [List.length_take]; omega
 refine ⟨a, cap, by rw [hlen], by omega, h2, h0, ?_, fun e he => h4 e (List.mem_of_mem_take he)⟩
 rw [(flatten_take h4 hk).1]; exact h3.take _
theorem FlatC.drop {s : Nat} {h : Frag} {a : Option Addr} {n cap k : Nat} {es : List (List Value)} (hl : FlatC s h (.slice a n cap) es) (hk : k ≤ n) : FlatC s h (.slice (partAt a cap k s) (n - k) (cap - k)) (es.drop k) := by
 obtain ⟨a', cap', e, h1, h2, h0, h3, h4⟩ := hl
 cases e
 have hlen : (es.drop k).length = es.length - k := List.length_drop
 refine ⟨_, cap - k, by rw [hlen], by omega, by omega, fun e => by have := h0 (partAt_none e); omega, ?_, fun e he => h4 e (List.mem_of_mem_drop he)⟩
 rw [(flatten_take h4 hk).2]
 exact h3.part (by rw [flatten_len h4]; exact Nat.mul_le_mul_right _ h1)
theorem count_any (b : Bool) (w : World) : Calls Tryz.prog 109 #[.bool b] w fun e w' => e = .returned (.int .i64 (if b then 1 else 0)) ∧ w = w' := by
 cases b with
 | true =>
  go_enter Tryz.func109, Tryz.ntmps109
  go_wp2
  go_ret
  exact ⟨rfl, rfl⟩
 | false =>
  go_enter Tryz.func109, Tryz.ntmps109
  go_wp2
  go_ret
  exact ⟨rfl, rfl⟩
theorem World.ownsRow_base {w : World} {b b' : Nat} {e : TypeId} {size n : Nat} {v : Value} {xs : List Value} (h : w.ownsRow b e size v n xs) (hb : b' ≤ b) : w.ownsRow b' e size v n xs := by
 refine ⟨h.1, ?_⟩
 rcases h.2 with h2 | ⟨g, cap, cur, h3, h4, h5⟩
 ·exact .inl h2
 ·exact .inr ⟨g, cap, cur, h3, Nat.le_trans hb h4, h5⟩
theorem T_fld : SliceT Tryz.prog 23 93 (.agg #[.int .i64 0, .int .i64 0, .int .u64 0, .string ⟨#[]⟩, .slice none 0 0, .string ⟨#[]⟩, .slice none 0 0, .slice none 0 0]) 8 128 := ⟨Tryz.underlying23, by kernel_rfl, rfl, by decide, by decide⟩
theorem clone_fld (v : Value) (es : List (List Value)) (w : World) (hv : FlatC 8 (frag w) v es) (hse : ∀ e ∈ es, Fld8 e) (hl : es.length < 100000000) :
  Calls Tryz.prog 118 #[v] w fun e w' => ∃ v', e = .returned v' ∧ w'.ownsRow w.heap.size 93 8 v' es.length es.flatten ∧ Below w.heap.size w w' := by
 obtain ⟨a, cap, rfl, h1, h2, h0, hrow, hsz⟩ := hv
 have qT : ∀ (w : World) (a : Option Addr) (n c n' c' : Nat), (binOp .eql 23 (.slice a n c) (.slice none n' c')).run Tryz.prog w = .ok (.bool a.isNone) w := fun w a n c n' c' => Lib.run_eql_slice_nil w _ _ a n c n' c' Tryz.underlying23
 cases a with
 | none =>
  have hc := h0 rfl
  subst hc
  have : es = [] := List.eq_nil_of_length_eq_zero (by omega)
  subst this
  go_enter Tryz.func118, Tryz.ntmps118
  go_wp2
  go_ret
  exact ⟨_, rfl, World.ownsRow_nil _ _ _ _, Below.refl _ _⟩
 | some p =>
  have Hrow := Yq (hrow.mono (alloc_le w (.cells #[] 93)))
  have Hown := Yq (World.ownsRow_lit (base := w.heap.size) (e := 93) (size := 8) w #[] 0 (Nat.le_refl _) (by decide) rfl)
  have Hb : Hid (Below w.heap.size w (w.alloc (.cells #[] 93))) := (Below.refl w.heap.size w).alloc (Nat.le_refl _) _
  have H1 := Yq (oneF (fun e => one8) hse)
  have Hsz := Yq hsz
  clear hrow hse hsz
  go_enter Tryz.func118, Tryz.ntmps118
  go_wp2_with (at_builtin; refine wpList_append_row T_fld (m := es.length) (c := cap) (ad := p) rfl _ _ rfl rfl Hown.out rfl Hrow.out (flatten_len Hsz.out) H1.out (by omega) (by simp) ?_)
  ·intro v' w' h3 h4 h5 _
   go_wp2
   go_ret
   refine ⟨_, rfl, by simpa using h3, Below.of_grown Hb.out Hown.out h4 (by simp) (Nat.le_refl _)⟩
def spliceL_fld (es : List (List Value)) (at_ many : Nat) (put : Bool) (x : List Value) : List (List Value) := es.take at_ ++ ((if put then [x] else []) ++ es.drop (at_ + many))
def SplPost_fld (w : World) (es : List (List Value)) (at_ many : Nat) (put : Bool) (x : List Value) (e : Ending) (w' : World) : Prop :=
 ∃ v', e = .returned v' ∧ w'.ownsRow w.heap.size 93 8 v' (spliceL_fld es at_ many put x).length (spliceL_fld es at_ many put x).flatten ∧ Below w.heap.size w w'
theorem spliced_fld (v : Value) (es : List (List Value)) (at_ many : Nat) (put : Bool) (x : List Value) (w : World) (hv : FlatC 8 (frag w) v es) (hse : ∀ e ∈ es, Fld8 e) (hl : es.length < 1000000) (ha : at_ + many ≤ es.length) (hx : Fld8 x) :
  Calls Tryz.prog 108 #[v, .int .i64 at_, .int .i64 many, .bool put, .agg x.toArray] w (SplPost_fld w es at_ many put x) := by
 obtain ⟨a, cap, rfl, h1, h2, h0⟩ := hv.len
 have HX := Yq hv
 have H1 := Yq (oneF (S := Fld8) (fun e => one8) (fun e (he : e ∈ es.drop (at_ + many)) => hse e (List.mem_of_mem_drop he)))
 obtain ⟨bx, hbx⟩ : ∃ o, o = Obj.cells x.toArray 93 := ⟨_, rfl⟩
 have hC := fun (wx : World) (hb : Below w.heap.size w wx) => clone_fld (.slice a at_ cap) (es.take at_) wx ((hv.take (k := at_) (by omega)).mono (below_le hb)) (fun e he => hse e (List.mem_of_mem_take he)) (by rw [List.length_take]; omega)
 have hD := hv.drop (k := at_ + many) (by omega)
 have hlt : (es.take at_).length = at_ := by rw [List.length_take]; omega
 have hld : (es.drop (at_ + many)).length = es.length - (at_ + many) := List.length_drop
 have hto := run_to (P := Tryz.prog) (t := 23) (s := 8) (a := a) (n := es.length) (cap := cap) (i := at_) Tryz.underlying23 sizeFld (by omega) h0
 have hfrom := run_from (P := Tryz.prog) (t := 23) (s := 8) (a := a) (n := es.length) (cap := cap) (i := at_ + many) Tryz.underlying23 sizeFld (by omega) h1 h0
 rw [show ((at_ + many : Nat) : Int) = (at_ : Int) + (many : Int) by omega] at hfrom
 have hxl := len8 hx
 have hx1 := one8 hx
 obtain ⟨xm, _, ⟨xk, xn, xt, xr, xa1, xn1, xc1, xa2, xn2, xc2, xa3, xn3, xc3, rfl⟩, rfl⟩ := hx
 have hHD : HRow (frag w) (partAt a cap (at_ + many) 8) (es.drop (at_ + many)).flatten := by
  obtain ⟨a', c', e, q1, q2, q3, q4, q5⟩ := hD
  injection e with e1 e2 e3
  rw [e1]; exact q4
 have hHl : (es.drop (at_ + many)).flatten.length = (es.length - (at_ + many)) * 8 := by rw [flatten_len (s := 8) (fun e he => hv.sizes e (List.mem_of_mem_drop he)), hld]
 have hpn : partAt a cap (at_ + many) 8 = none → cap - (at_ + many) = 0 := fun e => by have := h0 (partAt_none e); omega
 rw [hlt] at hC
 have HC := Yq hC; have HHD := Yq hHD; have HHl := Yq hHl; have Hpn := Yq hpn; have Hlt := Yq hlt; have Hld := Yq hld; have HX1 := Yq hx1
 clear hC hHD hHl hpn hD hlt hld hv hse h0 hbx hxl hx1
 obtain ⟨n, hn⟩ : ∃ n, n = es.length := ⟨_, rfl⟩
 rw [← hn] at HX HHl Hld h1 hl ha hto hfrom ⊢
 have Hn := Yq hn; clear hn
 unfold maxLen at h2
 generalize partAt a cap (at_ + many) 8 = pa at *
 have hb0 := Yq ((Below.refl w.heap.size w).alloc (Nat.le_refl _) (.cells #[.int .i64 xm, .int .i64 xk, .int .u64 xn, .string xt, .slice xa1 xn1 xc1, .string xr, .slice xa2 xn2 xc2, .slice xa3 xn3 xc3] 93))
 have hcell : ∀ w1 : World, Below (w.heap.size + 1) (w.alloc (.cells #[.int .i64 xm, .int .i64 xk, .int .u64 xn, .string xt, .slice xa1 xn1 xc1, .string xr, .slice xa2 xn2 xc2, .slice xa3 xn3 xc3] 93)) w1 → w1.cell? ⟨w.heap.size, 0, none⟩ = some (.int .i64 xm) ∧ w1.cell? ⟨w.heap.size, 1, none⟩ = some (.int .i64 xk) ∧ w1.cell? ⟨w.heap.size, 2, none⟩ = some (.int .u64 xn) ∧ w1.cell? ⟨w.heap.size, 3, none⟩ = some (.string xt) ∧ w1.cell? ⟨w.heap.size, 4, none⟩ = some (.slice xa1 xn1 xc1) ∧ w1.cell? ⟨w.heap.size, 5, none⟩ = some (.string xr) ∧ w1.cell? ⟨w.heap.size, 6, none⟩ = some (.slice xa2 xn2 xc2) ∧ w1.cell? ⟨w.heap.size, 7, none⟩ = some (.slice xa3 xn3 xc3) := by
  intro w1 hb
  refine ⟨?_, ?_, ?_, ?_, ?_, ?_, ?_, ?_⟩
  all_goals
   rw [hb.cell (by simp)]
   simp
 have Hcell := Yq hcell; clear hcell
 cases put with
 | true =>
  go_enter Tryz.func108, Tryz.ntmps108
  go_wp2_with fail
  refine (HC.out _ hb0.out).mono ?_
  rintro e w1 ⟨v1, rfl, hown1, hb1⟩
  have hbw1 := hb0.out.trans (hb1.mono hb0.out.size)
  obtain ⟨q0, q1, q2, q3, q4, q5, q6, q7⟩ := Hcell.out w1 (by simpa using hb1)
  have Hown1 := Yq hown1; have Hbw1 := Yq hbw1
  have hs1 : w.heap.size + 1 ≤ w1.heap.size := by have := hb1.size; simpa using this
  clear hown1 hbw1 hb1
  obtain ⟨a1, c1, rfl, _⟩ := HRow.of_owns (E := []) Hown1.out (.inr (by simp))
  go_wp2_with (at_builtin; refine wpList_append_at T_fld rfl _ _ rfl #[.int .i64 xm, .int .i64 xk, .int .u64 xn, .string xt, .slice xa1 xn1 xc1, .string xr, .slice xa2 xn2 xc2, .slice xa3 xn3 xc3] rfl Hown1.out rfl rfl HX1.out (by omega) (by first | omega | (simp; omega)) ?_)
  intro v2 w2 hown2 hg2 hat2
  have hbw2 : Below w.heap.size w w2 := Hbw1.out.grown hg2 (by omega) (fun k hk => by have := (Hown1.out.lt k hk).1; (try simp at this); omega)
  have hs2 := hg2.size
  have Hown2 := Yq hown2; have Hbw2 := Yq hbw2
  have hrow2 := HHD.out.mono (below_le hbw2)
  have Hrow2 := Yq hrow2
  clear hown2 hg2 hat2 hbw2 hrow2
  obtain ⟨a2, c2, rfl, _⟩ := HRow.of_owns (E := []) Hown2.out (.inr (by simp))
  go_wp2_with (at_builtin; refine wpList_append_opt T_fld (m := n - (at_ + many)) (c := cap - (at_ + many)) (ad := pa) rfl _ _ rfl rfl Hown2.out rfl Hpn.out (by omega) Hrow2.out HHl.out H1.out (by omega) (by first | omega | (simp; omega)) ?_)
  intro v3 w3 hown3 hg3 hat3
  have hbw3 : Below w.heap.size w w3 := Hbw2.out.grown hg3 (by omega) (fun k hk => by have := (Hown2.out.lt k hk).1; (try simp at this); omega)
  have Hown3 := Yq hown3
  clear hown3 hg3 hat3
  go_wp2_with fail
  go_ret
  refine ⟨_, rfl, ?_, hbw3⟩
  have hfl : (spliceL_fld es at_ many true [.int .i64 xm, .int .i64 xk, .int .u64 xn, .string xt, .slice xa1 xn1 xc1, .string xr, .slice xa2 xn2 xc2, .slice xa3 xn3 xc3]).flatten = (es.take at_).flatten ++ [.int .i64 xm, .int .i64 xk, .int .u64 xn, .string xt, .slice xa1 xn1 xc1, .string xr, .slice xa2 xn2 xc2, .slice xa3 xn3 xc3] ++ (es.drop (at_ + many)).flatten := by simp [spliceL_fld]
  have hln : (spliceL_fld es at_ many true [.int .i64 xm, .int .i64 xk, .int .u64 xn, .string xt, .slice xa1 xn1 xc1, .string xr, .slice xa2 xn2 xc2, .slice xa3 xn3 xc3]).length = at_ + 1 + (n - (at_ + many)) := by
   unfold spliceL_fld
   rw [List.length_append, List.length_append, Hlt.out, Hld.out]; simp; omega
  rw [hfl, hln]
  exact World.ownsRow_base (by simpa using Hown3.out) (by simp)
 | false =>
  go_enter Tryz.func108, Tryz.ntmps108
  go_wp2_with fail
  refine (HC.out _ hb0.out).mono ?_
  rintro e w1 ⟨v1, rfl, hown1, hb1⟩
  have hbw1 := hb0.out.trans (hb1.mono hb0.out.size)
  have Hown1 := Yq hown1; have Hbw1 := Yq hbw1
  have hs1 : w.heap.size + 1 ≤ w1.heap.size := by have := hb1.size; simpa using this
  have hrow2 := HHD.out.mono (below_le hbw1)
  have Hrow2 := Yq hrow2
  clear hown1 hbw1 hb1 hrow2
  obtain ⟨a1, c1, rfl, _⟩ := HRow.of_owns (E := []) Hown1.out (.inr (by simp))
  go_wp2_with (at_builtin; refine wpList_append_opt T_fld (m := n - (at_ + many)) (c := cap - (at_ + many)) (ad := pa) rfl _ _ rfl rfl Hown1.out rfl Hpn.out (by omega) Hrow2.out HHl.out H1.out (by omega) (by first | omega | (simp; omega)) ?_)
  intro v3 w3 hown3 hg3 hat3
  have hbw3 : Below w.heap.size w w3 := Hbw1.out.grown hg3 (by omega) (fun k hk => by have := (Hown1.out.lt k hk).1; (try simp at this); omega)
  have Hown3 := Yq hown3
  clear hown3 hg3 hat3
  go_wp2_with fail
  go_ret
  refine ⟨_, rfl, ?_, hbw3⟩
  have hfl : (spliceL_fld es at_ many false [.int .i64 xm, .int .i64 xk, .int .u64 xn, .string xt, .slice xa1 xn1 xc1, .string xr, .slice xa2 xn2 xc2, .slice xa3 xn3 xc3]).flatten = (es.take at_).flatten ++ (es.drop (at_ + many)).flatten := by simp [spliceL_fld]
  have hln : (spliceL_fld es at_ many false [.int .i64 xm, .int .i64 xk, .int .u64 xn, .string xt, .slice xa1 xn1 xc1, .string xr, .slice xa2 xn2 xc2, .slice xa3 xn3 xc3]).length = at_ + (n - (at_ + many)) := by
   unfold spliceL_fld
   rw [List.length_append, List.length_append, Hlt.out, Hld.out]; simp
  rw [hfl, hln]
  exact World.ownsRow_base (by simpa using Hown3.out) (by simp)
theorem T_par : SliceT Tryz.prog 25 97 (.agg #[.int .i64 0, .int .u64 0, .string ⟨#[]⟩, .slice none 0 0, .string ⟨#[]⟩, .slice none 0 0, .slice none 0 0, .int .i64 0, .int .u64 0, .string ⟨#[]⟩, .slice none 0 0, .string ⟨#[]⟩, .slice none 0 0, .slice none 0 0]) 14 240 := ⟨Tryz.underlying25, by kernel_rfl, rfl, by decide, by decide⟩
theorem clone_par (v : Value) (es : List (List Value)) (w : World) (hv : FlatC 14 (frag w) v es) (hse : ∀ e ∈ es, Par14 e) (hl : es.length < 100000000) :
  Calls Tryz.prog 122 #[v] w fun e w' => ∃ v', e = .returned v' ∧ w'.ownsRow w.heap.size 97 14 v' es.length es.flatten ∧ Below w.heap.size w w' := by
 obtain ⟨a, cap, rfl, h1, h2, h0, hrow, hsz⟩ := hv
 have qT : ∀ (w : World) (a : Option Addr) (n c n' c' : Nat), (binOp .eql 25 (.slice a n c) (.slice none n' c')).run Tryz.prog w = .ok (.bool a.isNone) w := fun w a n c n' c' => Lib.run_eql_slice_nil w _ _ a n c n' c' Tryz.underlying25
 cases a with
 | none =>
  have hc := h0 rfl
  subst hc
  have : es = [] := List.eq_nil_of_length_eq_zero (by omega)
  subst this
  go_enter Tryz.func122, Tryz.ntmps122
  go_wp2
  go_ret
  exact ⟨_, rfl, World.ownsRow_nil _ _ _ _, Below.refl _ _⟩
 | some p =>
  have Hrow := Yq (hrow.mono (alloc_le w (.cells #[] 97)))
  have Hown := Yq (World.ownsRow_lit (base := w.heap.size) (e := 97) (size := 14) w #[] 0 (Nat.le_refl _) (by decide) rfl)
  have Hb : Hid (Below w.heap.size w (w.alloc (.cells #[] 97))) := (Below.refl w.heap.size w).alloc (Nat.le_refl _) _
  have H1 := Yq (oneF (fun e => one14) hse)
  have Hsz := Yq hsz
  clear hrow hse hsz
  go_enter Tryz.func122, Tryz.ntmps122
  go_wp2_with (at_builtin; refine wpList_append_row T_par (m := es.length) (c := cap) (ad := p) rfl _ _ rfl rfl Hown.out rfl Hrow.out (flatten_len Hsz.out) H1.out (by omega) (by simp) ?_)
  ·intro v' w' h3 h4 h5 _
   go_wp2
   go_ret
   refine ⟨_, rfl, by simpa using h3, Below.of_grown Hb.out Hown.out h4 (by simp) (Nat.le_refl _)⟩
def spliceL_par (es : List (List Value)) (at_ many : Nat) (put : Bool) (x : List Value) : List (List Value) := es.take at_ ++ ((if put then [x] else []) ++ es.drop (at_ + many))
def SplPost_par (w : World) (es : List (List Value)) (at_ many : Nat) (put : Bool) (x : List Value) (e : Ending) (w' : World) : Prop :=
 ∃ v', e = .returned v' ∧ w'.ownsRow w.heap.size 97 14 v' (spliceL_par es at_ many put x).length (spliceL_par es at_ many put x).flatten ∧ Below w.heap.size w w'
theorem spliced_par (v : Value) (es : List (List Value)) (at_ many : Nat) (put : Bool) (x : List Value) (w : World) (hv : FlatC 14 (frag w) v es) (hse : ∀ e ∈ es, Par14 e) (hl : es.length < 1000000) (ha : at_ + many ≤ es.length) (hx : Par14 x) :
  Calls Tryz.prog 115 #[v, .int .i64 at_, .int .i64 many, .bool put, .agg x.toArray] w (SplPost_par w es at_ many put x) := by
 obtain ⟨a, cap, rfl, h1, h2, h0⟩ := hv.len
 have HX := Yq hv
 have H1 := Yq (oneF (S := Par14) (fun e => one14) (fun e (he : e ∈ es.drop (at_ + many)) => hse e (List.mem_of_mem_drop he)))
 obtain ⟨bx, hbx⟩ : ∃ o, o = Obj.cells x.toArray 97 := ⟨_, rfl⟩
 have hC := fun (wx : World) (hb : Below w.heap.size w wx) => clone_par (.slice a at_ cap) (es.take at_) wx ((hv.take (k := at_) (by omega)).mono (below_le hb)) (fun e he => hse e (List.mem_of_mem_take he)) (by rw [List.length_take]; omega)
 have hD := hv.drop (k := at_ + many) (by omega)
 have hlt : (es.take at_).length = at_ := by rw [List.length_take]; omega
 have hld : (es.drop (at_ + many)).length = es.length - (at_ + many) := List.length_drop
 have hto := run_to (P := Tryz.prog) (t := 25) (s := 14) (a := a) (n := es.length) (cap := cap) (i := at_) Tryz.underlying25 sizePar (by omega) h0
 have hfrom := run_from (P := Tryz.prog) (t := 25) (s := 14) (a := a) (n := es.length) (cap := cap) (i := at_ + many) Tryz.underlying25 sizePar (by omega) h1 h0
 rw [show ((at_ + many : Nat) : Int) = (at_ : Int) + (many : Int) by omega] at hfrom
 have hxl := len14 hx
 have hx1 := one14 hx
 obtain ⟨_, _, ⟨xk, xn, xt, xr, xa1, xn1, xc1, xa2, xn2, xc2, xa3, xn3, xc3, rfl⟩, ⟨yk, yn, yt, yr, ya1, yn1, yc1, ya2, yn2, yc2, ya3, yn3, yc3, rfl⟩, rfl⟩ := hx
 simp only [List.cons_append, List.nil_append] at *
 have hHD : HRow (frag w) (partAt a cap (at_ + many) 14) (es.drop (at_ + many)).flatten := by
  obtain ⟨a', c', e, q1, q2, q3, q4, q5⟩ := hD
  injection e with e1 e2 e3
  rw [e1]; exact q4
 have hHl : (es.drop (at_ + many)).flatten.length = (es.length - (at_ + many)) * 14 := by rw [flatten_len (s := 14) (fun e he => hv.sizes e (List.mem_of_mem_drop he)), hld]
 have hpn : partAt a cap (at_ + many) 14 = none → cap - (at_ + many) = 0 := fun e => by have := h0 (partAt_none e); omega
 rw [hlt] at hC
 have HC := Yq hC; have HHD := Yq hHD; have HHl := Yq hHl; have Hpn := Yq hpn; have Hlt := Yq hlt; have Hld := Yq hld; have HX1 := Yq hx1
 clear hC hHD hHl hpn hD hlt hld hv hse h0 hbx hxl hx1
 obtain ⟨n, hn⟩ : ∃ n, n = es.length := ⟨_, rfl⟩
 rw [← hn] at HX HHl Hld h1 hl ha hto hfrom ⊢
 have Hn := Yq hn; clear hn
 unfold maxLen at h2
 generalize partAt a cap (at_ + many) 14 = pa at *
 have hb0 := Yq ((Below.refl w.heap.size w).alloc (Nat.le_refl _) (.cells #[.int .i64 xk, .int .u64 xn, .string xt, .slice xa1 xn1 xc1, .string xr, .slice xa2 xn2 xc2, .slice xa3 xn3 xc3, .int .i64 yk, .int .u64 yn, .string yt, .slice ya1 yn1 yc1, .string yr, .slice ya2 yn2 yc2, .slice ya3 yn3 yc3] 97))
 have hcell : ∀ w1 : World, Below (w.heap.size + 1) (w.alloc (.cells #[.int .i64 xk, .int .u64 xn, .string xt, .slice xa1 xn1 xc1, .string xr, .slice xa2 xn2 xc2, .slice xa3 xn3 xc3, .int .i64 yk, .int .u64 yn, .string yt, .slice ya1 yn1 yc1, .string yr, .slice ya2 yn2 yc2, .slice ya3 yn3 yc3] 97)) w1 → w1.cell? ⟨w.heap.size, 0, none⟩ = some (.int .i64 xk) ∧ w1.cell? ⟨w.heap.size, 1, none⟩ = some (.int .u64 xn) ∧ w1.cell? ⟨w.heap.size, 2, none⟩ = some (.string xt) ∧ w1.cell? ⟨w.heap.size, 3, none⟩ = some (.slice xa1 xn1 xc1) ∧ w1.cell? ⟨w.heap.size, 4, none⟩ = some (.string xr) ∧ w1.cell? ⟨w.heap.size, 5, none⟩ = some (.slice xa2 xn2 xc2) ∧ w1.cell? ⟨w.heap.size, 6, none⟩ = some (.slice xa3 xn3 xc3) ∧ w1.cell? ⟨w.heap.size, 7, none⟩ = some (.int .i64 yk) ∧ w1.cell? ⟨w.heap.size, 8, none⟩ = some (.int .u64 yn) ∧ w1.cell? ⟨w.heap.size, 9, none⟩ = some (.string yt) ∧ w1.cell? ⟨w.heap.size, 10, none⟩ = some (.slice ya1 yn1 yc1) ∧ w1.cell? ⟨w.heap.size, 11, none⟩ = some (.string yr) ∧ w1.cell? ⟨w.heap.size, 12, none⟩ = some (.slice ya2 yn2 yc2) ∧ w1.cell? ⟨w.heap.size, 13, none⟩ = some (.slice ya3 yn3 yc3) := by
  intro w1 hb
  refine ⟨?_, ?_, ?_, ?_, ?_, ?_, ?_, ?_, ?_, ?_, ?_, ?_, ?_, ?_⟩
  all_goals
   rw [hb.cell (by simp)]
   simp
 have Hcell := Yq hcell; clear hcell
 cases put with
 | true =>
  go_enter Tryz.func115, Tryz.ntmps115
  go_wp2_with fail
  refine (HC.out _ hb0.out).mono ?_
  rintro e w1 ⟨v1, rfl, hown1, hb1⟩
  have hbw1 := hb0.out.trans (hb1.mono hb0.out.size)
  obtain ⟨q0, q1, q2, q3, q4, q5, q6, q7, q8, q9, q10, q11, q12, q13⟩ := Hcell.out w1 (by simpa using hb1)
  have Hown1 := Yq hown1; have Hbw1 := Yq hbw1
  have hs1 : w.heap.size + 1 ≤ w1.heap.size := by have := hb1.size; simpa using this
  clear hown1 hbw1 hb1
  obtain ⟨a1, c1, rfl, _⟩ := HRow.of_owns (E := []) Hown1.out (.inr (by simp))
  go_wp2_with (at_builtin; refine wpList_append_at T_par rfl _ _ rfl #[.int .i64 xk, .int .u64 xn, .string xt, .slice xa1 xn1 xc1, .string xr, .slice xa2 xn2 xc2, .slice xa3 xn3 xc3, .int .i64 yk, .int .u64 yn, .string yt, .slice ya1 yn1 yc1, .string yr, .slice ya2 yn2 yc2, .slice ya3 yn3 yc3] rfl Hown1.out rfl rfl HX1.out (by omega) (by first | omega | (simp; omega)) ?_)
  intro v2 w2 hown2 hg2 hat2
  have hbw2 : Below w.heap.size w w2 := Hbw1.out.grown hg2 (by omega) (fun k hk => by have := (Hown1.out.lt k hk).1; (try simp at this); omega)
  have hs2 := hg2.size
  have Hown2 := Yq hown2; have Hbw2 := Yq hbw2
  have hrow2 := HHD.out.mono (below_le hbw2)
  have Hrow2 := Yq hrow2
  clear hown2 hg2 hat2 hbw2 hrow2
  obtain ⟨a2, c2, rfl, _⟩ := HRow.of_owns (E := []) Hown2.out (.inr (by simp))
  go_wp2_with (at_builtin; refine wpList_append_opt T_par (m := n - (at_ + many)) (c := cap - (at_ + many)) (ad := pa) rfl _ _ rfl rfl Hown2.out rfl Hpn.out (by omega) Hrow2.out HHl.out H1.out (by omega) (by first | omega | (simp; omega)) ?_)
  intro v3 w3 hown3 hg3 hat3
  have hbw3 : Below w.heap.size w w3 := Hbw2.out.grown hg3 (by omega) (fun k hk => by have := (Hown2.out.lt k hk).1; (try simp at this); omega)
  have Hown3 := Yq hown3
  clear hown3 hg3 hat3
  go_wp2_with fail
  go_ret
  refine ⟨_, rfl, ?_, hbw3⟩
  have hfl : (spliceL_par es at_ many true [.int .i64 xk, .int .u64 xn, .string xt, .slice xa1 xn1 xc1, .string xr, .slice xa2 xn2 xc2, .slice xa3 xn3 xc3, .int .i64 yk, .int .u64 yn, .string yt, .slice ya1 yn1 yc1, .string yr, .slice ya2 yn2 yc2, .slice ya3 yn3 yc3]).flatten = (es.take at_).flatten ++ [.int .i64 xk, .int .u64 xn, .string xt, .slice xa1 xn1 xc1, .string xr, .slice xa2 xn2 xc2, .slice xa3 xn3 xc3, .int .i64 yk, .int .u64 yn, .string yt, .slice ya1 yn1 yc1, .string yr, .slice ya2 yn2 yc2, .slice ya3 yn3 yc3] ++ (es.drop (at_ + many)).flatten := by simp [spliceL_par]
  have hln : (spliceL_par es at_ many true [.int .i64 xk, .int .u64 xn, .string xt, .slice xa1 xn1 xc1, .string xr, .slice xa2 xn2 xc2, .slice xa3 xn3 xc3, .int .i64 yk, .int .u64 yn, .string yt, .slice ya1 yn1 yc1, .string yr, .slice ya2 yn2 yc2, .slice ya3 yn3 yc3]).length = at_ + 1 + (n - (at_ + many)) := by
   unfold spliceL_par
   rw [List.length_append, List.length_append, Hlt.out, Hld.out]; simp; omega
  rw [hfl, hln]
  exact World.ownsRow_base (by simpa using Hown3.out) (by simp)
 | false =>
  go_enter Tryz.func115, Tryz.ntmps115
  go_wp2_with fail
  refine (HC.out _ hb0.out).mono ?_
  rintro e w1 ⟨v1, rfl, hown1, hb1⟩
  have hbw1 := hb0.out.trans (hb1.mono hb0.out.size)
  have Hown1 := Yq hown1; have Hbw1 := Yq hbw1
  have hs1 : w.heap.size + 1 ≤ w1.heap.size := by have := hb1.size; simpa using this
  have hrow2 := HHD.out.mono (below_le hbw1)
  have Hrow2 := Yq hrow2
  clear hown1 hbw1 hb1 hrow2
  obtain ⟨a1, c1, rfl, _⟩ := HRow.of_owns (E := []) Hown1.out (.inr (by simp))
  go_wp2_with (at_builtin; refine wpList_append_opt T_par (m := n - (at_ + many)) (c := cap - (at_ + many)) (ad := pa) rfl _ _ rfl rfl Hown1.out rfl Hpn.out (by omega) Hrow2.out HHl.out H1.out (by omega) (by first | omega | (simp; omega)) ?_)
  intro v3 w3 hown3 hg3 hat3
  have hbw3 : Below w.heap.size w w3 := Hbw1.out.grown hg3 (by omega) (fun k hk => by have := (Hown1.out.lt k hk).1; (try simp at this); omega)
  have Hown3 := Yq hown3
  clear hown3 hg3 hat3
  go_wp2_with fail
  go_ret
  refine ⟨_, rfl, ?_, hbw3⟩
  have hfl : (spliceL_par es at_ many false [.int .i64 xk, .int .u64 xn, .string xt, .slice xa1 xn1 xc1, .string xr, .slice xa2 xn2 xc2, .slice xa3 xn3 xc3, .int .i64 yk, .int .u64 yn, .string yt, .slice ya1 yn1 yc1, .string yr, .slice ya2 yn2 yc2, .slice ya3 yn3 yc3]).flatten = (es.take at_).flatten ++ (es.drop (at_ + many)).flatten := by simp [spliceL_par]
  have hln : (spliceL_par es at_ many false [.int .i64 xk, .int .u64 xn, .string xt, .slice xa1 xn1 xc1, .string xr, .slice xa2 xn2 xc2, .slice xa3 xn3 xc3, .int .i64 yk, .int .u64 yn, .string yt, .slice ya1 yn1 yc1, .string yr, .slice ya2 yn2 yc2, .slice ya3 yn3 yc3]).length = at_ + (n - (at_ + many)) := by
   unfold spliceL_par
   rw [List.length_append, List.length_append, Hlt.out, Hld.out]; simp
  rw [hfl, hln]
  exact World.ownsRow_base (by simpa using Hown3.out) (by simp)
end Go.Proofs.YtlmbcoecipbblaaGreatDoor
