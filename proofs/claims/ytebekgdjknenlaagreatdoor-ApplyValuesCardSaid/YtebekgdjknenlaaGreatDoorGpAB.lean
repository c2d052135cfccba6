/- Plain facts: values as trees, and which one comes first. How values lie in. -/
import GoSem.Op.String
import Derived.Test.YtebekgdjknenlaaGreatDoorGpAA
set_option maxRecDepth 100000
set_option linter.unusedVariables false
set_option linter.unusedSimpArgs false
namespace Go.Proofs.YtebekgdjknenlaaGreatDoor.Val
inductive V where
 | mk (kind num : Int) (text : ByteArray) (fields : List (Int × V)) (rest : ByteArray) (list : List V) (pairs : List (V × V))
def V.kind : V → Int | .mk k _ _ _ _ _ _ => k
def V.num : V → Int | .mk _ n _ _ _ _ _ => n
def V.text : V → ByteArray | .mk _ _ t _ _ _ _ => t
def V.fields : V → List (Int × V) | .mk _ _ _ f _ _ _ => f
def V.rest : V → ByteArray | .mk _ _ _ _ r _ _ => r
def V.list : V → List V | .mk _ _ _ _ _ l _ => l
def V.pairs : V → List (V × V) | .mk _ _ _ _ _ _ p => p
def ocmp (a b : Int) : Int := if a < b then -1 else if b < a then 1 else 0
def orr (a b : Int) : Int := if a = 0 then b else a
def scmp (a b : ByteArray) : Int := if Op.bytesLess a.toList b.toList then -1 else if a.toList = b.toList then 0 else 1
mutual
def cmp : V → V → Int
 | .mk k n t fs r l ps, .mk k' n' t' fs' r' l' ps' =>
  if k = k' then
   if k = 1 then ocmp n n' else if k = 2 then scmp t t' else if k = 3 then orr (cmpF fs fs') (scmp r r') else if k = 4 then cmpL l l' else if k = 5 then cmpP ps ps' else 0
  else ocmp k k'
def cmpF : List (Int × V) → List (Int × V) → Int
 | [], [] => 0
 | [], _ :: _ => -1
 | _ :: _, [] => 1
 | (n, v) :: r, (n', v') :: r' => orr (orr (ocmp n n') (cmp v v')) (cmpF r r')
def cmpL : List V → List V → Int
 | [], [] => 0
 | [], _ :: _ => -1
 | _ :: _, [] => 1
 | v :: r, v' :: r' => orr (cmp v v') (cmpL r r')
def cmpP : List (V × V) → List (V × V) → Int
 | [], [] => 0
 | [], _ :: _ => -1
 | _ :: _, [] => 1
 | (k, v) :: r, (k', v') :: r' => orr (orr (cmp k k') (cmp v v')) (cmpP r r')
end
def lexN (c : Nat → Int) : Nat → Nat → Int
 | 0, 0 => 0
 | 0, _ + 1 => -1
 | _ + 1, 0 => 1
 | n + 1, m + 1 => orr (c 0) (lexN (fun i => c (i + 1)) n m)
theorem lexN_hit (c : Nat → Int) : ∀ (n m k : Nat), k < n → k < m → (∀ j, j < k → c j = 0) → c k ≠ 0 → lexN c n m = c k
 | n + 1, m + 1, 0, _, _, _, h => by simp [lexN, orr, h]
 | n + 1, m + 1, k + 1, h1, h2, h3, h4 => by
  have h0 := h3 0 (by omega)
  simp only [lexN, orr, h0, if_true]
  exact lexN_hit (fun i => c (i + 1)) n m k (by omega) (by omega) (fun j hj => h3 (j + 1) (by omega)) h4
theorem lexN_end (c : Nat → Int) : ∀ (n m : Nat), (∀ j, j < n → j < m → c j = 0) → lexN c n m = if n < m then -1 else if m < n then 1 else 0
 | 0, 0, _ => by simp [lexN]
 | 0, m + 1, _ => by simp [lexN]
 | n + 1, 0, _ => by simp [lexN]
 | n + 1, m + 1, h => by
  have h0 := h 0 (by omega) (by omega)
  simp only [lexN, orr, h0, if_true]
  rw [lexN_end (fun i => c (i + 1)) n m (fun j h1 h2 => h (j + 1) (by omega) (by omega))]
  simp
def v0 : V := .mk 0 0 ByteArray.empty [] ByteArray.empty [] []
theorem cmpF_lex : ∀ fs gs : List (Int × V), cmpF fs gs = lexN (fun i => orr (ocmp (fs.getD i (0, v0)).1 (gs.getD i (0, v0)).1) (cmp (fs.getD i (0, v0)).2 (gs.getD i (0, v0)).2)) fs.length gs.length
 | [], [] => by simp [cmpF, lexN]
 | [], _ :: _ => by simp [cmpF, lexN]
 | _ :: _, [] => by simp [cmpF, lexN]
 | (n, v) :: r, (n', v') :: r' => by simp [cmpF, lexN, cmpF_lex r r']
theorem cmpL_lex : ∀ fs gs : List V, cmpL fs gs = lexN (fun i => cmp (fs.getD i v0) (gs.getD i v0)) fs.length gs.length
 | [], [] => by simp [cmpL, lexN]
 | [], _ :: _ => by simp [cmpL, lexN]
 | _ :: _, [] => by simp [cmpL, lexN]
 | v :: r, v' :: r' => by simp [cmpL, lexN, cmpL_lex r r']
theorem cmpP_lex : ∀ fs gs : List (V × V), cmpP fs gs = lexN (fun i => orr (cmp (fs.getD i (v0, v0)).1 (gs.getD i (v0, v0)).1) (cmp (fs.getD i (v0, v0)).2 (gs.getD i (v0, v0)).2)) fs.length gs.length
 | [], [] => by simp [cmpP, lexN]
 | [], _ :: _ => by simp [cmpP, lexN]
 | _ :: _, [] => by simp [cmpP, lexN]
 | (n, v) :: r, (n', v') :: r' => by simp [cmpP, lexN, cmpP_lex r r']
theorem size_field {x : V} {m : Int} {v : V} (h : (m, v) ∈ x.fields) : SizeOf.sizeOf v < SizeOf.sizeOf x := by
 cases x
 have := List.sizeOf_lt_of_mem h
 simp [V.fields] at this ⊢; omega
theorem size_list {x v : V} (h : v ∈ x.list) : SizeOf.sizeOf v < SizeOf.sizeOf x := by
 cases x
 have := List.sizeOf_lt_of_mem h
 simp [V.list] at this ⊢; omega
theorem size_pair {x k v : V} (h : (k, v) ∈ x.pairs) : SizeOf.sizeOf k < SizeOf.sizeOf x ∧ SizeOf.sizeOf v < SizeOf.sizeOf x := by
 cases x
 have := List.sizeOf_lt_of_mem h
 simp [V.pairs] at this ⊢; omega
end Go.Proofs.YtebekgdjknenlaaGreatDoor.Val
namespace Go.Proofs.YtebekgdjknenlaaGreatDoor
open Go.RowKit
open Val (V)
mutual
def VR (h : Frag) : V → List Value → Prop
 | .mk k n t fs r l ps, cs => ∃ fv lv pv fe le pe, cs = [.int .i64 k, .int .u64 n, .string t, fv, .string r, lv, pv] ∧ (t.size ≤ maxLen ∧ r.size ≤ maxLen) ∧
   (FlatC 8 h fv fe ∧ FlatC 7 h lv le ∧ FlatC 14 h pv pe) ∧ FsR h fs fe ∧ LsR h l le ∧ PsR h ps pe
def FsR (h : Frag) : List (Int × V) → List (List Value) → Prop
 | [], es => es = []
 | (n, x) :: r, es => ∃ xc er, es = (.int .i64 n :: xc) :: er ∧ VR h x xc ∧ FsR h r er
def LsR (h : Frag) : List V → List (List Value) → Prop
 | [], es => es = []
 | x :: r, es => ∃ xc er, es = xc :: er ∧ VR h x xc ∧ LsR h r er
def PsR (h : Frag) : List (V × V) → List (List Value) → Prop
 | [], es => es = []
 | (k, x) :: r, es => ∃ kc xc er, es = (kc ++ xc) :: er ∧ VR h k kc ∧ VR h x xc ∧ PsR h r er
end
mutual
theorem VR.mono {h h' : Frag} (hle : FLe h h') : ∀ {x : V} {cs : List Value}, VR h x cs → VR h' x cs
 | .mk k n t fs r l ps, cs, hv => by
  rw [VR] at hv ⊢
  obtain ⟨fv, lv, pv, fe, le, pe, h1, h2, ⟨h3, h4, h5⟩, h6, h7, h8⟩ := hv
  exact ⟨fv, lv, pv, fe, le, pe, h1, h2, ⟨h3.mono hle, h4.mono hle, h5.mono hle⟩, FsR.mono hle h6, LsR.mono hle h7, PsR.mono hle h8⟩
theorem FsR.mono {h h' : Frag} (hle : FLe h h') : ∀ {xs : List (Int × V)} {es : List (List Value)}, FsR h xs es → FsR h' xs es
 | [], es, hv => by rw [FsR] at hv ⊢; exact hv
 | (n, x) :: r, es, hv => by
  rw [FsR] at hv ⊢
  obtain ⟨xc, er, h1, h2, h3⟩ := hv
  exact ⟨xc, er, h1, VR.mono hle h2, FsR.mono hle h3⟩
theorem LsR.mono {h h' : Frag} (hle : FLe h h') : ∀ {xs : List V} {es : List (List Value)}, LsR h xs es → LsR h' xs es
 | [], es, hv => by rw [LsR] at hv ⊢; exact hv
 | x :: r, es, hv => by
  rw [LsR] at hv ⊢
  obtain ⟨xc, er, h1, h2, h3⟩ := hv
  exact ⟨xc, er, h1, VR.mono hle h2, LsR.mono hle h3⟩
theorem PsR.mono {h h' : Frag} (hle : FLe h h') : ∀ {xs : List (V × V)} {es : List (List Value)}, PsR h xs es → PsR h' xs es
 | [], es, hv => by rw [PsR] at hv ⊢; exact hv
 | (k, x) :: r, es, hv => by
  rw [PsR] at hv ⊢
  obtain ⟨kc, xc, er, h1, h2, h3, h4⟩ := hv
  exact ⟨kc, xc, er, h1, VR.mono hle h2, VR.mono hle h3, PsR.mono hle h4⟩
end
def Val7 (e : List Value) : Prop := ∃ (k n : Int) (t r : ByteArray) (a1 : Option Addr) (n1 c1 : Nat) (a2 : Option Addr) (n2 c2 : Nat) (a3 : Option Addr) (n3 c3 : Nat), e = [.int .i64 k, .int .u64 n, .string t, .slice a1 n1 c1, .string r, .slice a2 n2 c2, .slice a3 n3 c3]
def Fld8 (e : List Value) : Prop := ∃ (m : Int) (x : List Value), Val7 x ∧ e = .int .i64 m :: x
def Par14 (e : List Value) : Prop := ∃ x y : List Value, Val7 x ∧ Val7 y ∧ e = x ++ y
theorem VR.shape {h : Frag} {x : V} {cs : List Value} (hv : VR h x cs) : Val7 cs := by
 cases x
 rw [VR] at hv
 obtain ⟨fv, lv, pv, fe, le, pe, rfl, _, ⟨h1, h2, h3⟩, _⟩ := hv
 obtain ⟨a1, c1, rfl, _⟩ := h1.len
 obtain ⟨a2, c2, rfl, _⟩ := h2.len
 obtain ⟨a3, c3, rfl, _⟩ := h3.len
 exact ⟨_, _, _, _, _, _, _, _, _, _, _, _, _, rfl⟩
theorem VR.len {h : Frag} {x : V} {cs : List Value} (hv : VR h x cs) : cs.length = 7 := by
 cases x
 rw [VR] at hv
 obtain ⟨fv, lv, pv, fe, le, pe, rfl, _⟩ := hv
 rfl
theorem FsR.len {h : Frag} : ∀ {xs : List (Int × V)} {es : List (List Value)}, FsR h xs es → es.length = xs.length
 | [], es, hv => by rw [FsR] at hv; simp [hv]
 | (n, x) :: r, es, hv => by
  rw [FsR] at hv
  obtain ⟨xc, er, rfl, _, h3⟩ := hv
  simp [h3.len]
theorem LsR.len {h : Frag} : ∀ {xs : List V} {es : List (List Value)}, LsR h xs es → es.length = xs.length
 | [], es, hv => by rw [LsR] at hv; simp [hv]
 | x :: r, es, hv => by
  rw [LsR] at hv
  obtain ⟨xc, er, rfl, _, h3⟩ := hv
  simp [h3.len]
theorem PsR.len {h : Frag} : ∀ {xs : List (V × V)} {es : List (List Value)}, PsR h xs es → es.length = xs.length
 | [], es, hv => by rw [PsR] at hv; simp [hv]
 | (k, x) :: r, es, hv => by
  rw [PsR] at hv
  obtain ⟨kc, xc, er, rfl, _, _, h3⟩ := hv
  simp [h3.len]
theorem FsR.at {h : Frag} : ∀ {xs : List (Int × V)} {es : List (List Value)} (_ : FsR h xs es) {i : Nat} (hi : i < xs.length) (he : i < es.length), ∃ xc, es[i] = .int .i64 xs[i].1 :: xc ∧ VR h xs[i].2 xc
 | (n, x) :: r, es, hv, i, hi, he => by
  rw [FsR] at hv
  obtain ⟨xc, er, rfl, h2, h3⟩ := hv
  cases i with
  | zero => exact ⟨xc, rfl, h2⟩
  | succ i => exact h3.at (by simpa using hi) (by simpa using he)
theorem LsR.at {h : Frag} : ∀ {xs : List V} {es : List (List Value)} (_ : LsR h xs es) {i : Nat} (hi : i < xs.length) (he : i < es.length), VR h xs[i] es[i]
 | x :: r, es, hv, i, hi, he => by
  rw [LsR] at hv
  obtain ⟨xc, er, rfl, h2, h3⟩ := hv
  cases i with
  | zero => exact h2
  | succ i => exact h3.at (by simpa using hi) (by simpa using he)
theorem PsR.at {h : Frag} : ∀ {xs : List (V × V)} {es : List (List Value)} (_ : PsR h xs es) {i : Nat} (hi : i < xs.length) (he : i < es.length), ∃ kc xc, es[i] = kc ++ xc ∧ VR h xs[i].1 kc ∧ VR h xs[i].2 xc
 | (n, x) :: r, es, hv, i, hi, he => by
  rw [PsR] at hv
  obtain ⟨kc, xc, er, rfl, h1, h2, h3⟩ := hv
  cases i with
  | zero => exact ⟨kc, xc, rfl, h1, h2⟩
  | succ i => exact h3.at (by simpa using hi) (by simpa using he)
theorem FsR.shapes {h : Frag} {xs : List (Int × V)} {es : List (List Value)} (hv : FsR h xs es) : ∀ e ∈ es, Fld8 e := by
 intro e he
 obtain ⟨i, hi, rfl⟩ := List.getElem_of_mem he
 obtain ⟨xc, h1, h2⟩ := hv.at (i := i) (by rw [← hv.len]; exact hi) hi
 exact ⟨_, xc, h2.shape, h1⟩
theorem LsR.shapes {h : Frag} {xs : List V} {es : List (List Value)} (hv : LsR h xs es) : ∀ e ∈ es, Val7 e := by
 intro e he
 obtain ⟨i, hi, rfl⟩ := List.getElem_of_mem he
 exact (hv.at (i := i) (by rw [← hv.len]; exact hi) hi).shape
theorem PsR.shapes {h : Frag} {xs : List (V × V)} {es : List (List Value)} (hv : PsR h xs es) : ∀ e ∈ es, Par14 e := by
 intro e he
 obtain ⟨i, hi, rfl⟩ := List.getElem_of_mem he
 obtain ⟨kc, xc, h1, h2, h3⟩ := hv.at (i := i) (by rw [← hv.len]; exact hi) hi
 exact ⟨kc, xc, h2.shape, h3.shape, h1⟩
theorem FsR.snoc {h : Frag} : ∀ {xs : List (Int × V)} {es : List (List Value)} {n : Int} {x : V} {xc : List Value}, FsR h xs es → VR h x xc → FsR h (xs ++ [(n, x)]) (es ++ [.int .i64 n :: xc])
 | [], es, n, x, xc, hv, hx => by rw [FsR] at hv; subst hv; simp only [List.nil_append]; rw [FsR]; exact ⟨xc, [], rfl, hx, by rw [FsR]⟩
 | (m, y) :: r, es, n, x, xc, hv, hx => by
  rw [FsR] at hv
  obtain ⟨yc, er, rfl, h2, h3⟩ := hv
  simp only [List.cons_append]; rw [FsR]
  exact ⟨yc, _, rfl, h2, h3.snoc hx⟩
theorem LsR.snoc {h : Frag} : ∀ {xs : List V} {es : List (List Value)} {x : V} {xc : List Value}, LsR h xs es → VR h x xc → LsR h (xs ++ [x]) (es ++ [xc])
 | [], es, x, xc, hv, hx => by rw [LsR] at hv; subst hv; simp only [List.nil_append]; rw [LsR]; exact ⟨xc, [], rfl, hx, by rw [LsR]⟩
 | y :: r, es, x, xc, hv, hx => by
  rw [LsR] at hv
  obtain ⟨yc, er, rfl, h2, h3⟩ := hv
  simp only [List.cons_append]; rw [LsR]
  exact ⟨yc, _, rfl, h2, h3.snoc hx⟩
theorem PsR.snoc {h : Frag} : ∀ {xs : List (V × V)} {es : List (List Value)} {n x : V} {nc xc : List Value}, PsR h xs es → VR h n nc → VR h x xc → PsR h (xs ++ [(n, x)]) (es ++ [nc ++ xc])
 | [], es, n, x, nc, xc, hv, hn, hx => by rw [PsR] at hv; subst hv; simp only [List.nil_append]; rw [PsR]; exact ⟨nc, xc, [], rfl, hn, hx, by rw [PsR]⟩
 | (m, y) :: r, es, n, x, nc, xc, hv, hn, hx => by
  rw [PsR] at hv
  obtain ⟨mc, yc, er, rfl, h1, h2, h3⟩ := hv
  simp only [List.cons_append]; rw [PsR]
  exact ⟨mc, yc, _, rfl, h1, h2, h3.snoc hn hx⟩
structure Held (B : Nat) (W0 : World) (C : World → Prop) : Prop where
 le : B ≤ W0.heap.size
 of : ∀ w', Below B W0 w' → C w'
theorem Held.start {B : Nat} {W0 : World} {C : World → Prop} (h : Held B W0 C) : C W0.drew ∧ Below B W0 W0.drew := ⟨h.of _ (Below.refl _ _).drew, (Below.refl _ _).drew⟩
theorem Held.call {B : Nat} {W0 : World} {C : World → Prop} (h : Held B W0 C) {w1 w2 : World} (h2 : Below w1.heap.size w1 w2) (h1 : C w1 ∧ Below B W0 w1) : C w2 ∧ Below B W0 w2 :=
 have hb := h1.2.trans (h2.mono (Nat.le_trans h.le h1.2.size))
 ⟨h.of _ hb, hb⟩
theorem Held.alloc {B : Nat} {W0 : World} {C : World → Prop} (h : Held B W0 C) {w1 : World} (h1 : C w1 ∧ Below B W0 w1) (o : Obj) : C (w1.alloc o) ∧ Below B W0 (w1.alloc o) :=
 have hb := h1.2.alloc (Nat.le_trans h.le h1.2.size) o
 ⟨h.of _ hb, hb⟩
theorem Held.draw {B : Nat} {W0 : World} {C : World → Prop} (h : Held B W0 C) {w1 : World} (h1 : C w1 ∧ Below B W0 w1) : C w1.drew ∧ Below B W0 w1.drew :=
 ⟨h.of _ h1.2.drew, h1.2.drew⟩
theorem sizeFld (w : World) : (Go.sizeOf (Tryz.prog.elem 23)).run Tryz.prog w = .ok 8 w := by kernel_rfl
theorem sizeVal (w : World) : (Go.sizeOf (Tryz.prog.elem 24)).run Tryz.prog w = .ok 7 w := by kernel_rfl
theorem sizePar (w : World) : (Go.sizeOf (Tryz.prog.elem 25)).run Tryz.prog w = .ok 14 w := by kernel_rfl
theorem list7 {α : Type} {l : List α} (h : l.length = 7) : ∃ a b c d e f g, l = [a, b, c, d, e, f, g] := by
 match l, h with
 | [a, b, c, d, e, f, g], _ => exact ⟨a, b, c, d, e, f, g, rfl⟩
open Val (ocmp orr scmp)
theorem isnan_int (k : Int) (w : World) : Calls Tryz.prog 77 #[.int .i64 k] w fun e w' => e = .returned (.bool false) ∧ w = w' := by
 go_enter Tryz.func77, Tryz.ntmps77
 go_wp2
 go_ret
 exact ⟨by simp, rfl⟩
theorem isnan_u64 (k : Int) (w : World) : Calls Tryz.prog 78 #[.int .u64 k] w fun e w' => e = .returned (.bool false) ∧ w = w' := by
 go_enter Tryz.func78, Tryz.ntmps78
 go_wp2
 go_ret
 exact ⟨by simp, rfl⟩
theorem isnan_str (k : ByteArray) (w : World) : Calls Tryz.prog 79 #[.string k] w fun e w' => e = .returned (.bool false) ∧ w = w' := by
 go_enter Tryz.func79, Tryz.ntmps79
 go_wp2
 go_ret
 exact ⟨by simp, rfl⟩
theorem cmp_int (a b : Int) (w : World) : Calls Tryz.prog 56 #[.int .i64 a, .int .i64 b] w fun e w' => e = .returned (.int .i64 (ocmp a b)) ∧ w = w' := by
 by_cases h1 : a < b
 ·go_enter Tryz.func56, Tryz.ntmps56
  go_wp2_with (go_at_call 77; refine (isnan_int _ _).mono ?_; rintro e w' ⟨rfl, rfl⟩)
  go_ret
  exact ⟨ret_int (by unfold ocmp; repeat' split
                     all_goals omega), rfl⟩
 ·by_cases h2 : b < a
  ·go_enter Tryz.func56, Tryz.ntmps56
   go_wp2_with (go_at_call 77; refine (isnan_int _ _).mono ?_; rintro e w' ⟨rfl, rfl⟩)
   go_ret
   exact ⟨ret_int (by unfold ocmp; repeat' split
                      all_goals omega), rfl⟩
  ·go_enter Tryz.func56, Tryz.ntmps56
   go_wp2_with (go_at_call 77; refine (isnan_int _ _).mono ?_; rintro e w' ⟨rfl, rfl⟩)
   go_ret
   exact ⟨ret_int (by unfold ocmp; repeat' split
                      all_goals omega), rfl⟩
theorem cmp_u64 (a b : Int) (w : World) : Calls Tryz.prog 57 #[.int .u64 a, .int .u64 b] w fun e w' => e = .returned (.int .i64 (ocmp a b)) ∧ w = w' := by
 by_cases h1 : a < b
 ·go_enter Tryz.func57, Tryz.ntmps57
  go_wp2_with (go_at_call 78; refine (isnan_u64 _ _).mono ?_; rintro e w' ⟨rfl, rfl⟩)
  go_ret
  exact ⟨ret_int (by unfold ocmp; repeat' split
                     all_goals omega), rfl⟩
 ·by_cases h2 : b < a
  ·go_enter Tryz.func57, Tryz.ntmps57
   go_wp2_with (go_at_call 78; refine (isnan_u64 _ _).mono ?_; rintro e w' ⟨rfl, rfl⟩)
   go_ret
   exact ⟨ret_int (by unfold ocmp; repeat' split
                      all_goals omega), rfl⟩
  ·go_enter Tryz.func57, Tryz.ntmps57
   go_wp2_with (go_at_call 78; refine (isnan_u64 _ _).mono ?_; rintro e w' ⟨rfl, rfl⟩)
   go_ret
   exact ⟨ret_int (by unfold ocmp; repeat' split
                      all_goals omega), rfl⟩
theorem cmp_str (a b : ByteArray) (w : World) : Calls Tryz.prog 58 #[.string a, .string b] w fun e w' => e = .returned (.int .i64 (scmp a b)) ∧ w = w' := by
 cases h1 : Op.bytesLess a.toList b.toList with
 | true =>
  have H1 := Yq h1
  go_enter Tryz.func58, Tryz.ntmps58
  go_wp2_with (go_at_call 79; refine (isnan_str _ _).mono ?_; rintro e w' ⟨rfl, rfl⟩)
  go_ret
  exact ⟨ret_int (by simp [scmp, H1.out]), rfl⟩
 | false =>
  have H1 := Yq h1
  cases h2 : (a.toList == b.toList) with
  | true =>
   have h3 : a.toList = b.toList := by simpa using h2
   have H3 := Yq h3; clear h3
   go_enter Tryz.func58, Tryz.ntmps58
   go_wp2_with (go_at_call 79; refine (isnan_str _ _).mono ?_; rintro e w' ⟨rfl, rfl⟩)
   go_ret
   exact ⟨ret_int (by unfold scmp; rw [H1.out, if_neg (by simp), if_pos H3.out]), rfl⟩
  | false =>
   have h3 : ¬ a.toList = b.toList := by simpa using h2
   have H3 := Yq h3; clear h3
   go_enter Tryz.func58, Tryz.ntmps58
   go_wp2_with (go_at_call 79; refine (isnan_str _ _).mono ?_; rintro e w' ⟨rfl, rfl⟩)
   go_ret
   exact ⟨ret_int (by simp [scmp, H1.out, H3.out]), rfl⟩
theorem or_any (x y : Int) (w : World) (g : Nat) (hg : g < w.heap.size) (h0 : w.cell? ⟨g, 0, none⟩ = some (.int .i64 x)) (h1 : w.cell? ⟨g, 1, none⟩ = some (.int .i64 y)) :
  Calls Tryz.prog 59 #[.slice (some ⟨g, 0, none⟩) 2 2] w fun e w' => e = .returned (.int .i64 (orr x y)) ∧ w = w' := by
 cases hx : (x != 0) with
 | true =>
  have hx' : ¬ x = 0 := by simpa using hx
  have HX := Yq hx'; clear hx'
  go_enter Tryz.func59, Tryz.ntmps59
  go_wp2
  refine wp_loop_rounds 1 ?_
  rw [rounds_succ]
  go_wp2
  go_ret
  exact ⟨ret_int (by simp [orr, HX.out]), rfl⟩
 | false =>
  have hx' : x = 0 := by simpa using hx
  have HX := Yq hx'; clear hx'
  cases hy : (y != 0) with
  | true =>
   go_enter Tryz.func59, Tryz.ntmps59
   go_wp2
   refine wp_loop_rounds 2 ?_
   rw [rounds_succ]
   go_wp2
   rw [rounds_succ]
   go_wp2
   go_ret
   exact ⟨ret_int (by simp [orr, HX.out]), rfl⟩
  | false =>
   have hy' : y = 0 := by simpa using hy
   have HY := Yq hy'; clear hy'
   go_enter Tryz.func59, Tryz.ntmps59
   go_wp2
   refine wp_loop_rounds 3 ?_
   rw [rounds_succ]
   go_wp2
   rw [rounds_succ]
   go_wp2
   rw [rounds_succ]
   go_wp2
   go_ret
   exact ⟨ret_int (by simp [orr, HX.out, HY.out]), rfl⟩
end Go.Proofs.YtebekgdjknenlaaGreatDoor
