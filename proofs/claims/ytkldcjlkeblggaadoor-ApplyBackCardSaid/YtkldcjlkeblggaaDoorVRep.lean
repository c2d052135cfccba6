/- How values lie in memory: a slice of elements of s cells each; a tree of values. -/
import Derived.Test.YtkldcjlkeblggaaDoorGroupA
import Derived.Test.YtkldcjlkeblggaaDoorGroupB
namespace Go.Proofs.YtkldcjlkeblggaaDoor
open Go.RowKit
open Val (V)
set_option linter.unusedVariables false

/-- a slice value of elements of s cells each: the cells of each -/
def FlatC (s : Nat) (h : Frag) (v : Value) (es : List (List Value)) : Prop :=
  ∃ a cap, v = .slice a es.length cap ∧ es.length ≤ cap ∧ cap ≤ maxLen ∧ (a = none → cap = 0) ∧ HRow h a es.flatten ∧ ∀ e ∈ es, e.length = s

theorem FlatC.mono {s : Nat} {h h' : Frag} {v : Value} {es : List (List Value)} (hl : FlatC s h v es) (hle : FLe h h') : FlatC s h' v es := by
  obtain ⟨a, cap, rfl, h1, h2, h0, h3, h4⟩ := hl
  exact ⟨a, cap, rfl, h1, h2, h0, h3.mono hle, h4⟩
theorem FlatC.len {s : Nat} {h : Frag} {v : Value} {es : List (List Value)} (hl : FlatC s h v es) : ∃ a cap, v = .slice a es.length cap ∧ es.length ≤ cap ∧ cap ≤ maxLen ∧ (a = none → cap = 0) := by
  obtain ⟨a, cap, rfl, h1, h2, h0, _⟩ := hl
  exact ⟨a, cap, rfl, h1, h2, h0⟩
theorem flatten_len {s : Nat} : ∀ {es : List (List Value)}, (∀ e ∈ es, e.length = s) → es.flatten.length = es.length * s
  | [], _ => by simp
  | e :: r, h => by
    rw [List.flatten_cons, List.length_append, flatten_len (es := r) (fun x hx => h x (by simp [hx])), h e (by simp), List.length_cons, Nat.succ_mul, Nat.add_comm]
theorem flatten_at {s : Nat} : ∀ {es : List (List Value)} (i j : Nat) (_ : ∀ e ∈ es, e.length = s) (h : i < es.length), j < s → es.flatten[i * s + j]? = es[i][j]?
  | e :: r, 0, j, hs, h, hj => by
    rw [List.flatten_cons, List.getElem?_append_left (by rw [hs e (by simp)]; omega)]; simp
  | e :: r, i + 1, j, hs, h, hj => by
    have he := hs e (by simp)
    rw [List.flatten_cons, List.getElem?_append_right (by rw [he, Nat.succ_mul]; omega), he]
    have : (i + 1) * s + j - s = i * s + j := by rw [Nat.succ_mul]; omega
    rw [this, flatten_at i j (fun x hx => hs x (by simp [hx])) (by simpa using h) hj]; simp

theorem FlatC.at {s : Nat} {P : Program} {t : TypeId} {w : World} {a : Option Addr} {n cap : Nat} {es : List (List Value)} (hl : FlatC s (frag w) (.slice a n cap) es) (hs0 : 0 < s) {i : Nat} (hi : i < es.length)
    (ht : P.underlying t = some (.slice (P.elem t))) (hs : ∀ w, (Go.sizeOf (P.elem t)).run P w = .ok s w) :
    ∃ b o, b < w.heap.size ∧ (∀ w', (Instr.indexAt t (.slice a n cap) (.int .i64 i)).run P w' = .ok (.pointer (some ⟨b, o, none⟩)) w') ∧ ∀ j u, es[i][j]? = some u → w.cell? ⟨b, o + j, none⟩ = some u := by
  obtain ⟨a', cap', e, h1, h2, h0, h3, h4⟩ := hl
  cases e
  have hl := flatten_len h4
  rcases h3 with hnil | ⟨b, off, cur, t', fr, rfl, hb, hc⟩
  · exfalso
    rw [hnil] at hl
    have : es.length * s = 0 := by simpa using hl.symm
    rcases Nat.mul_eq_zero.1 this with h | h <;> omega
  · refine ⟨b, off + i * s, heap_lt hb, fun w' => ?_, fun j u hu => ?_⟩
    · rw [run_indexAt_slice (h := ht), if_pos (by omega), hs]
      simp [Result.andThen, Addr.add_none]
    · have hj : j < s := by
        have := (List.getElem?_eq_some_iff.1 hu).1
        rw [h4 _ (List.getElem_mem _)] at this; exact this
      have hlt : i * s + j < es.length * s := by
        have : (i + 1) * s ≤ es.length * s := Nat.mul_le_mul_right _ (by omega)
        rw [Nat.succ_mul] at this; omega
      rw [Nat.add_assoc, cell_of_row w b _ cur t' fr hb, hc _ (by rw [hl]; exact hlt), flatten_at i j h4 hi hj, hu]

theorem FlatC.of_owns {s : Nat} {w : World} {base : Nat} {e : TypeId} {v : Value} {n : Nat} {es : List (List Value)} {E : List (Option Nat)} (ho : w.ownsRow base e s v n es.flatten) (hn : es.length = n) (hes : ∀ x ∈ es, x.length = s) (hX : v.ownBlock = none ∨ ¬ v.ownBlock ∈ E) : FlatC s (fragE w E) v es := by
  obtain ⟨a, cap, rfl, hrow, h1, h2, h0⟩ := HRow.of_owns ho hX
  subst hn
  exact ⟨a, cap, rfl, h1, h2, h0, hrow, hes⟩
theorem FlatC.nil (s : Nat) (h : Frag) : FlatC s h (.slice none 0 0) [] := ⟨none, 0, rfl, Nat.le_refl _, Nat.zero_le _, fun _ => rfl, .inl rfl, fun e he => by simp at he⟩
theorem FlatC.sizes {s : Nat} {h : Frag} {v : Value} {es : List (List Value)} (hl : FlatC s h v es) : ∀ e ∈ es, e.length = s := by
  obtain ⟨a, cap, rfl, h1, h2, h0, h3, h4⟩ := hl
  exact h4

mutual
/-- a value's seven cells -/
def VR (h : Frag) : V → List Value → Prop
  | .mk k n t fs r l ps, cs => ∃ fv lv pv fe le pe, cs = [.int .i64 k, .int .u64 n, .string t, fv, .string r, lv, pv] ∧ (t.size ≤ maxLen ∧ r.size ≤ maxLen) ∧
      (FlatC 8 h fv fe ∧ FlatC 7 h lv le ∧ FlatC 14 h pv pe) ∧ FsR h fs fe ∧ LsR h l le ∧ PsR h ps pe
def FsR (h : Frag) : List (Int × V) → List (List Value) → Prop
  | [], es => es = []
  | (n, x) :: r, es => ∃ xc er, es = (.int .i64 n :: xc) :: er ∧ VR h x xc ∧ FsR h r er
def LsR (h : Frag) : List V → List (List Value) → Prop
  | [], es => es = []
  | x :: r, es => ∃ xc er, es = xc :: er ∧ VR h x xc ∧ LsR h r er
def PsR (h : Frag) : List (V × V) → List (List Value) → Prop
  | [], es => es = []
  | (k, x) :: r, es => ∃ kc xc er, es = (kc ++ xc) :: er ∧ VR h k kc ∧ VR h x xc ∧ PsR h r er
end

mutual
theorem VR.mono {h h' : Frag} (hle : FLe h h') : ∀ {x : V} {cs : List Value}, VR h x cs → VR h' x cs
  | .mk k n t fs r l ps, cs, hv => by
    rw [VR] at hv ⊢
    obtain ⟨fv, lv, pv, fe, le, pe, h1, h2, ⟨h3, h4, h5⟩, h6, h7, h8⟩ := hv
    exact ⟨fv, lv, pv, fe, le, pe, h1, h2, ⟨h3.mono hle, h4.mono hle, h5.mono hle⟩, FsR.mono hle h6, LsR.mono hle h7, PsR.mono hle h8⟩
theorem FsR.mono {h h' : Frag} (hle : FLe h h') : ∀ {xs : List (Int × V)} {es : List (List Value)}, FsR h xs es → FsR h' xs es
  | [], es, hv => by rw [FsR] at hv ⊢; exact hv
  | (n, x) :: r, es, hv => by
    rw [FsR] at hv ⊢
    obtain ⟨xc, er, h1, h2, h3⟩ := hv
    exact ⟨xc, er, h1, VR.mono hle h2, FsR.mono hle h3⟩
theorem LsR.mono {h h' : Frag} (hle : FLe h h') : ∀ {xs : List V} {es : List (List Value)}, LsR h xs es → LsR h' xs es
  | [], es, hv => by rw [LsR] at hv ⊢; exact hv
  | x :: r, es, hv => by
    rw [LsR] at hv ⊢
    obtain ⟨xc, er, h1, h2, h3⟩ := hv
    exact ⟨xc, er, h1, VR.mono hle h2, LsR.mono hle h3⟩
theorem PsR.mono {h h' : Frag} (hle : FLe h h') : ∀ {xs : List (V × V)} {es : List (List Value)}, PsR h xs es → PsR h' xs es
  | [], es, hv => by rw [PsR] at hv ⊢; exact hv
  | (k, x) :: r, es, hv => by
    rw [PsR] at hv ⊢
    obtain ⟨kc, xc, er, h1, h2, h3, h4⟩ := hv
    exact ⟨kc, xc, er, h1, VR.mono hle h2, VR.mono hle h3, PsR.mono hle h4⟩
end

/-- the shapes of cells -/
def Val7 (e : List Value) : Prop := ∃ (k n : Int) (t r : ByteArray) (a1 : Option Addr) (n1 c1 : Nat) (a2 : Option Addr) (n2 c2 : Nat) (a3 : Option Addr) (n3 c3 : Nat), e = [.int .i64 k, .int .u64 n, .string t, .slice a1 n1 c1, .string r, .slice a2 n2 c2, .slice a3 n3 c3]
def Fld8 (e : List Value) : Prop := ∃ (m : Int) (x : List Value), Val7 x ∧ e = .int .i64 m :: x
def Par14 (e : List Value) : Prop := ∃ x y : List Value, Val7 x ∧ Val7 y ∧ e = x ++ y
theorem VR.shape {h : Frag} {x : V} {cs : List Value} (hv : VR h x cs) : Val7 cs := by
  cases x
  rw [VR] at hv
  obtain ⟨fv, lv, pv, fe, le, pe, rfl, _, ⟨h1, h2, h3⟩, _⟩ := hv
  obtain ⟨a1, c1, rfl, _⟩ := h1.len
  obtain ⟨a2, c2, rfl, _⟩ := h2.len
  obtain ⟨a3, c3, rfl, _⟩ := h3.len
  exact ⟨_, _, _, _, _, _, _, _, _, _, _, _, _, rfl⟩
theorem VR.len {h : Frag} {x : V} {cs : List Value} (hv : VR h x cs) : cs.length = 7 := by
  cases x
  rw [VR] at hv
  obtain ⟨fv, lv, pv, fe, le, pe, rfl, _⟩ := hv
  rfl
theorem FsR.len {h : Frag} : ∀ {xs : List (Int × V)} {es : List (List Value)}, FsR h xs es → es.length = xs.length
  | [], es, hv => by rw [FsR] at hv; simp [hv]
  | (n, x) :: r, es, hv => by
    rw [FsR] at hv
    obtain ⟨xc, er, rfl, _, h3⟩ := hv
    simp [h3.len]
theorem LsR.len {h : Frag} : ∀ {xs : List V} {es : List (List Value)}, LsR h xs es → es.length = xs.length
  | [], es, hv => by rw [LsR] at hv; simp [hv]
  | x :: r, es, hv => by
    rw [LsR] at hv
    obtain ⟨xc, er, rfl, _, h3⟩ := hv
    simp [h3.len]
theorem PsR.len {h : Frag} : ∀ {xs : List (V × V)} {es : List (List Value)}, PsR h xs es → es.length = xs.length
  | [], es, hv => by rw [PsR] at hv; simp [hv]
  | (k, x) :: r, es, hv => by
    rw [PsR] at hv
    obtain ⟨kc, xc, er, rfl, _, _, h3⟩ := hv
    simp [h3.len]
theorem FsR.at {h : Frag} : ∀ {xs : List (Int × V)} {es : List (List Value)} (_ : FsR h xs es) {i : Nat} (hi : i < xs.length) (he : i < es.length), ∃ xc, es[i] = .int .i64 xs[i].1 :: xc ∧ VR h xs[i].2 xc
  | (n, x) :: r, es, hv, i, hi, he => by
    rw [FsR] at hv
    obtain ⟨xc, er, rfl, h2, h3⟩ := hv
    cases i with
    | zero => exact ⟨xc, rfl, h2⟩
    | succ i => exact h3.at (by simpa using hi) (by simpa using he)
theorem LsR.at {h : Frag} : ∀ {xs : List V} {es : List (List Value)} (_ : LsR h xs es) {i : Nat} (hi : i < xs.length) (he : i < es.length), VR h xs[i] es[i]
  | x :: r, es, hv, i, hi, he => by
    rw [LsR] at hv
    obtain ⟨xc, er, rfl, h2, h3⟩ := hv
    cases i with
    | zero => exact h2
    | succ i => exact h3.at (by simpa using hi) (by simpa using he)
theorem PsR.at {h : Frag} : ∀ {xs : List (V × V)} {es : List (List Value)} (_ : PsR h xs es) {i : Nat} (hi : i < xs.length) (he : i < es.length), ∃ kc xc, es[i] = kc ++ xc ∧ VR h xs[i].1 kc ∧ VR h xs[i].2 xc
  | (n, x) :: r, es, hv, i, hi, he => by
    rw [PsR] at hv
    obtain ⟨kc, xc, er, rfl, h1, h2, h3⟩ := hv
    cases i with
    | zero => exact ⟨kc, xc, rfl, h1, h2⟩
    | succ i => exact h3.at (by simpa using hi) (by simpa using he)

theorem FsR.shapes {h : Frag} {xs : List (Int × V)} {es : List (List Value)} (hv : FsR h xs es) : ∀ e ∈ es, Fld8 e := by
  intro e he
  obtain ⟨i, hi, rfl⟩ := List.getElem_of_mem he
  obtain ⟨xc, h1, h2⟩ := hv.at (i := i) (by rw [← hv.len]; exact hi) hi
  exact ⟨_, xc, h2.shape, h1⟩
theorem LsR.shapes {h : Frag} {xs : List V} {es : List (List Value)} (hv : LsR h xs es) : ∀ e ∈ es, Val7 e := by
  intro e he
  obtain ⟨i, hi, rfl⟩ := List.getElem_of_mem he
  exact (hv.at (i := i) (by rw [← hv.len]; exact hi) hi).shape
theorem PsR.shapes {h : Frag} {xs : List (V × V)} {es : List (List Value)} (hv : PsR h xs es) : ∀ e ∈ es, Par14 e := by
  intro e he
  obtain ⟨i, hi, rfl⟩ := List.getElem_of_mem he
  obtain ⟨kc, xc, h1, h2, h3⟩ := hv.at (i := i) (by rw [← hv.len]; exact hi) hi
  exact ⟨kc, xc, h2.shape, h3.shape, h1⟩

/-- the lists' elements put together -/
theorem FsR.snoc {h : Frag} : ∀ {xs : List (Int × V)} {es : List (List Value)} {n : Int} {x : V} {xc : List Value}, FsR h xs es → VR h x xc → FsR h (xs ++ [(n, x)]) (es ++ [.int .i64 n :: xc])
  | [], es, n, x, xc, hv, hx => by rw [FsR] at hv; subst hv; simp only [List.nil_append]; rw [FsR]; exact ⟨xc, [], rfl, hx, by rw [FsR]⟩
  | (m, y) :: r, es, n, x, xc, hv, hx => by
    rw [FsR] at hv
    obtain ⟨yc, er, rfl, h2, h3⟩ := hv
    simp only [List.cons_append]; rw [FsR]
    exact ⟨yc, _, rfl, h2, h3.snoc hx⟩
theorem LsR.snoc {h : Frag} : ∀ {xs : List V} {es : List (List Value)} {x : V} {xc : List Value}, LsR h xs es → VR h x xc → LsR h (xs ++ [x]) (es ++ [xc])
  | [], es, x, xc, hv, hx => by rw [LsR] at hv; subst hv; simp only [List.nil_append]; rw [LsR]; exact ⟨xc, [], rfl, hx, by rw [LsR]⟩
  | y :: r, es, x, xc, hv, hx => by
    rw [LsR] at hv
    obtain ⟨yc, er, rfl, h2, h3⟩ := hv
    simp only [List.cons_append]; rw [LsR]
    exact ⟨yc, _, rfl, h2, h3.snoc hx⟩
theorem PsR.snoc {h : Frag} : ∀ {xs : List (V × V)} {es : List (List Value)} {n x : V} {nc xc : List Value}, PsR h xs es → VR h n nc → VR h x xc → PsR h (xs ++ [(n, x)]) (es ++ [nc ++ xc])
  | [], es, n, x, nc, xc, hv, hn, hx => by rw [PsR] at hv; subst hv; simp only [List.nil_append]; rw [PsR]; exact ⟨nc, xc, [], rfl, hn, hx, by rw [PsR]⟩
  | (m, y) :: r, es, n, x, nc, xc, hv, hn, hx => by
    rw [PsR] at hv
    obtain ⟨mc, yc, er, rfl, h1, h2, h3⟩ := hv
    simp only [List.cons_append]; rw [PsR]
    exact ⟨mc, yc, _, rfl, h1, h2, h3.snoc hn hx⟩

end Go.Proofs.YtkldcjlkeblggaaDoor
