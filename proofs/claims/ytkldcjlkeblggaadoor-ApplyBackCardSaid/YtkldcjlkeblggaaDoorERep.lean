/- How edits lie in memory. -/
import Derived.Test.YtkldcjlkeblggaaDoorVPut
import Derived.Test.YtkldcjlkeblggaaDoorGroupB
namespace Go.Proofs.YtkldcjlkeblggaaDoor
open Go.RowKit
open Val (V E)
set_option linter.unusedVariables false

mutual
/-- an edit's twenty-one cells -/
def ER (h : Frag) : E → List Value → Prop
  | .mk k o n f r ro rn s ks, cs => ∃ oc nc fv sv kv fe se ke, cs = .int .i64 k :: (oc ++ (nc ++ [fv, .bool r, .string ro, .string rn, sv, kv])) ∧ (ro.size ≤ maxLen ∧ rn.size ≤ maxLen) ∧
      (VR h o oc ∧ VR h n nc) ∧ (FlatC 22 h fv fe ∧ FlatC 30 h sv se ∧ FlatC 28 h kv ke) ∧ EFs h f fe ∧ ESs h s se ∧ EKs h ks ke
def EFs (h : Frag) : List (Int × E) → List (List Value) → Prop
  | [], es => es = []
  | (n, x) :: r, es => ∃ xc er, es = (.int .i64 n :: xc) :: er ∧ ER h x xc ∧ EFs h r er
def ESs (h : Frag) : List (Int × Int × V × E) → List (List Value) → Prop
  | [], es => es = []
  | (k, c, v, x) :: r, es => ∃ vc xc er, es = (.int .i64 k :: .int .i64 c :: (vc ++ xc)) :: er ∧ VR h v vc ∧ ER h x xc ∧ ESs h r er
def EKs (h : Frag) : List (V × E) → List (List Value) → Prop
  | [], es => es = []
  | (k, x) :: r, es => ∃ kc xc er, es = (kc ++ xc) :: er ∧ VR h k kc ∧ ER h x xc ∧ EKs h r er
end

mutual
theorem ER.mono {h h' : Frag} (hle : FLe h h') : ∀ {x : E} {cs : List Value}, ER h x cs → ER h' x cs
  | .mk k o n f r ro rn s ks, cs, hv => by
    rw [ER] at hv ⊢
    obtain ⟨oc, nc, fv, sv, kv, fe, se, ke, h1, h2, ⟨h3, h4⟩, ⟨h5, h6, h7⟩, h8, h9, h10⟩ := hv
    exact ⟨oc, nc, fv, sv, kv, fe, se, ke, h1, h2, ⟨h3.mono hle, h4.mono hle⟩, ⟨h5.mono hle, h6.mono hle, h7.mono hle⟩, EFs.mono hle h8, ESs.mono hle h9, EKs.mono hle h10⟩
theorem EFs.mono {h h' : Frag} (hle : FLe h h') : ∀ {xs : List (Int × E)} {es : List (List Value)}, EFs h xs es → EFs h' xs es
  | [], es, hv => by rw [EFs] at hv ⊢; exact hv
  | (n, x) :: r, es, hv => by
    rw [EFs] at hv ⊢
    obtain ⟨xc, er, h1, h2, h3⟩ := hv
    exact ⟨xc, er, h1, ER.mono hle h2, EFs.mono hle h3⟩
theorem ESs.mono {h h' : Frag} (hle : FLe h h') : ∀ {xs : List (Int × Int × V × E)} {es : List (List Value)}, ESs h xs es → ESs h' xs es
  | [], es, hv => by rw [ESs] at hv ⊢; exact hv
  | (k, c, v, x) :: r, es, hv => by
    rw [ESs] at hv ⊢
    obtain ⟨vc, xc, er, h1, h2, h3, h4⟩ := hv
    exact ⟨vc, xc, er, h1, h2.mono hle, ER.mono hle h3, ESs.mono hle h4⟩
theorem EKs.mono {h h' : Frag} (hle : FLe h h') : ∀ {xs : List (V × E)} {es : List (List Value)}, EKs h xs es → EKs h' xs es
  | [], es, hv => by rw [EKs] at hv ⊢; exact hv
  | (k, x) :: r, es, hv => by
    rw [EKs] at hv ⊢
    obtain ⟨kc, xc, er, h1, h2, h3, h4⟩ := hv
    exact ⟨kc, xc, er, h1, h2.mono hle, ER.mono hle h3, EKs.mono hle h4⟩
end

/-- the shapes of cells -/
def Ed21 (e : List Value) : Prop := ∃ (k : Int) (x y : List Value) (a1 : Option Addr) (n1 c1 : Nat) (b : Bool) (t r : ByteArray) (a2 : Option Addr) (n2 c2 : Nat) (a3 : Option Addr) (n3 c3 : Nat), Val7 x ∧ Val7 y ∧
  e = .int .i64 k :: (x ++ (y ++ [.slice a1 n1 c1, .bool b, .string t, .string r, .slice a2 n2 c2, .slice a3 n3 c3]))
def EF22 (e : List Value) : Prop := ∃ (m : Int) (x : List Value), Ed21 x ∧ e = .int .i64 m :: x
def ES30 (e : List Value) : Prop := ∃ (k c : Int) (x y : List Value), Val7 x ∧ Ed21 y ∧ e = .int .i64 k :: .int .i64 c :: (x ++ y)
def EK28 (e : List Value) : Prop := ∃ x y : List Value, Val7 x ∧ Ed21 y ∧ e = x ++ y
theorem ER.shape {h : Frag} {x : E} {cs : List Value} (hv : ER h x cs) : Ed21 cs := by
  cases x
  rw [ER] at hv
  obtain ⟨oc, nc, fv, sv, kv, fe, se, ke, rfl, _, ⟨h1, h2⟩, ⟨h5, h6, h7⟩, _⟩ := hv
  obtain ⟨a1, c1, rfl, _⟩ := h5.len
  obtain ⟨a2, c2, rfl, _⟩ := h6.len
  obtain ⟨a3, c3, rfl, _⟩ := h7.len
  exact ⟨_, oc, nc, _, _, _, _, _, _, _, _, _, _, _, _, h1.shape, h2.shape, rfl⟩
theorem EFs.len {h : Frag} : ∀ {xs : List (Int × E)} {es : List (List Value)}, EFs h xs es → es.length = xs.length
  | [], es, hv => by rw [EFs] at hv; simp [hv]
  | (n, x) :: r, es, hv => by
    rw [EFs] at hv
    obtain ⟨xc, er, rfl, _, h3⟩ := hv
    simp [h3.len]
theorem ESs.len {h : Frag} : ∀ {xs : List (Int × Int × V × E)} {es : List (List Value)}, ESs h xs es → es.length = xs.length
  | [], es, hv => by rw [ESs] at hv; simp [hv]
  | (k, c, v, x) :: r, es, hv => by
    rw [ESs] at hv
    obtain ⟨vc, xc, er, rfl, _, _, h3⟩ := hv
    simp [h3.len]
theorem EKs.len {h : Frag} : ∀ {xs : List (V × E)} {es : List (List Value)}, EKs h xs es → es.length = xs.length
  | [], es, hv => by rw [EKs] at hv; simp [hv]
  | (k, x) :: r, es, hv => by
    rw [EKs] at hv
    obtain ⟨kc, xc, er, rfl, _, _, h3⟩ := hv
    simp [h3.len]
theorem EFs.at {h : Frag} : ∀ {xs : List (Int × E)} {es : List (List Value)} (_ : EFs h xs es) {i : Nat} (hi : i < xs.length) (he : i < es.length), ∃ xc, es[i] = .int .i64 xs[i].1 :: xc ∧ ER h xs[i].2 xc
  | (n, x) :: r, es, hv, i, hi, he => by
    rw [EFs] at hv
    obtain ⟨xc, er, rfl, h2, h3⟩ := hv
    cases i with
    | zero => exact ⟨xc, rfl, h2⟩
    | succ i => exact h3.at (by simpa using hi) (by simpa using he)
theorem ESs.at {h : Frag} : ∀ {xs : List (Int × Int × V × E)} {es : List (List Value)} (_ : ESs h xs es) {i : Nat} (hi : i < xs.length) (he : i < es.length), ∃ vc xc, es[i] = .int .i64 xs[i].1 :: .int .i64 xs[i].2.1 :: (vc ++ xc) ∧ VR h xs[i].2.2.1 vc ∧ ER h xs[i].2.2.2 xc
  | (k, c, v, x) :: r, es, hv, i, hi, he => by
    rw [ESs] at hv
    obtain ⟨vc, xc, er, rfl, h1, h2, h3⟩ := hv
    cases i with
    | zero => exact ⟨vc, xc, rfl, h1, h2⟩
    | succ i => exact h3.at (by simpa using hi) (by simpa using he)
theorem EKs.at {h : Frag} : ∀ {xs : List (V × E)} {es : List (List Value)} (_ : EKs h xs es) {i : Nat} (hi : i < xs.length) (he : i < es.length), ∃ kc xc, es[i] = kc ++ xc ∧ VR h xs[i].1 kc ∧ ER h xs[i].2 xc
  | (k, x) :: r, es, hv, i, hi, he => by
    rw [EKs] at hv
    obtain ⟨kc, xc, er, rfl, h1, h2, h3⟩ := hv
    cases i with
    | zero => exact ⟨kc, xc, rfl, h1, h2⟩
    | succ i => exact h3.at (by simpa using hi) (by simpa using he)

theorem sizeEF (w : World) : (Go.sizeOf (Tryd.prog.elem 28)).run Tryd.prog w = .ok 22 w := by kernel_rfl
theorem sizeES (w : World) : (Go.sizeOf (Tryd.prog.elem 29)).run Tryd.prog w = .ok 30 w := by kernel_rfl
theorem sizeEK (w : World) : (Go.sizeOf (Tryd.prog.elem 30)).run Tryd.prog w = .ok 28 w := by kernel_rfl

end Go.Proofs.YtkldcjlkeblggaaDoor
