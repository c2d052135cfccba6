/- Plain facts: values as trees, and which one comes first. How values lie in. -/
import GoSem.Op.String
import Derived.Test.YtlmbcoecipbblaaGreatDoorGpA
set_option linter.unusedVariables false
set_option linter.unusedSimpArgs false
namespace Go.Proofs.YtlmbcoecipbblaaGreatDoor.Val
inductive V where
 | mk (kind num : Int) (text : ByteArray) (fields : List (Int × V)) (rest : ByteArray) (list : List V) (pairs : List (V × V))
def V.kind : V → Int | .mk k _ _ _ _ _ _ => k
def V.num : V → Int | .mk _ n _ _ _ _ _ => n
def V.text : V → ByteArray | .mk _ _ t _ _ _ _ => t
def V.fields : V → List (Int × V) | .mk _ _ _ f _ _ _ => f
def V.rest : V → ByteArray | .mk _ _ _ _ r _ _ => r
def V.list : V → List V | .mk _ _ _ _ _ l _ => l
def V.pairs : V → List (V × V) | .mk _ _ _ _ _ _ p => p
def ocmp (a b : Int) : Int := if a < b then -1 else if b < a then 1 else 0
def orr (a b : Int) : Int := if a = 0 then b else a
def scmp (a b : ByteArray) : Int := if Op.bytesLess a.toList b.toList then -1 else if a.toList = b.toList then 0 else 1
mutual
def cmp : V → V → Int
 | .mk k n t fs r l ps, .mk k' n' t' fs' r' l' ps' =>
  if k = k' then
   if k = 1 then ocmp n n' else if k = 2 then scmp t t' else if k = 3 then orr (cmpF fs fs') (scmp r r') else if k = 4 then cmpL l l' else if k = 5 then cmpP ps ps' else 0
  else ocmp k k'
def cmpF : List (Int × V) → List (Int × V) → Int
 | [], [] => 0
 | [], _ :: _ => -1
 | _ :: _, [] => 1
 | (n, v) :: r, (n', v') :: r' => orr (orr (ocmp n n') (cmp v v')) (cmpF r r')
def cmpL : List V → List V → Int
 | [], [] => 0
 | [], _ :: _ => -1
 | _ :: _, [] => 1
 | v :: r, v' :: r' => orr (cmp v v') (cmpL r r')
def cmpP : List (V × V) → List (V × V) → Int
 | [], [] => 0
 | [], _ :: _ => -1
 | _ :: _, [] => 1
 | (k, v) :: r, (k', v') :: r' => orr (orr (cmp k k') (cmp v v')) (cmpP r r')
end
def lexN (c : Nat → Int) : Nat → Nat → Int
 | 0, 0 => 0
 | 0, _ + 1 => -1
 | _ + 1, 0 => 1
 | n + 1, m + 1 => orr (c 0) (lexN (fun i => c (i + 1)) n m)
theorem lexN_hit (c : Nat → Int) : ∀ (n m k : Nat), k < n → k < m → (∀ j, j < k → c j = 0) → c k ≠ 0 → lexN c n m = c k
 | n + 1, m + 1, 0, _, _, _, h => by simp [lexN, orr, h]
 | n + 1, m + 1, k + 1, h1, h2, h3, h4 => by
  have h0 := h3 0 (by omega)
  simp only [lexN, orr, h0, if_true]
  exact lexN_hit (fun i => c (i + 1)) n m k (by omega) (by omega) (fun j hj => h3 (j + 1) (by omega)) h4
theorem lexN_end (c : Nat → Int) : ∀ (n m : Nat), (∀ j, j < n → j < m → c j = 0) → lexN c n m = if n < m then -1 else if m < n then 1 else 0
 | 0, 0, _ => by simp [lexN]
 | 0, m + 1, _ => by simp [lexN]
 | n + 1, 0, _ => by simp [lexN]
 | n + 1, m + 1, h => by
  have h0 := h 0 (by omega) (by omega)
  simp only [lexN, orr, h0, if_true]
  rw [lexN_end (fun i => c (i + 1)) n m (fun j h1 h2 => h (j + 1) (by omega) (by omega))]
  simp
def v0 : V := .mk 0 0 ByteArray.empty [] ByteArray.empty [] []
theorem cmpF_lex : ∀ fs gs : List (Int × V), cmpF fs gs = lexN (fun i => orr (ocmp (fs.getD i (0, v0)).1 (gs.getD i (0, v0)).1) (cmp (fs.getD i (0, v0)).2 (gs.getD i (0, v0)).2)) fs.length gs.length
 | [], [] => by simp [cmpF, lexN]
 | [], _ :: _ => by simp [cmpF, lexN]
 | _ :: _, [] => by simp [cmpF, lexN]
 | (n, v) :: r, (n', v') :: r' => by simp [cmpF, lexN, cmpF_lex r r']
theorem cmpL_lex : ∀ fs gs : List V, cmpL fs gs = lexN (fun i => cmp (fs.getD i v0) (gs.getD i v0)) fs.length gs.length
 | [], [] => by simp [cmpL, lexN]
 | [], _ :: _ => by simp [cmpL, lexN]
 | _ :: _, [] => by simp [cmpL, lexN]
 | v :: r, v' :: r' => by simp [cmpL, lexN, cmpL_lex r r']
theorem cmpP_lex : ∀ fs gs : List (V × V), cmpP fs gs = lexN (fun i => orr (cmp (fs.getD i (v0, v0)).1 (gs.getD i (v0, v0)).1) (cmp (fs.getD i (v0, v0)).2 (gs.getD i (v0, v0)).2)) fs.length gs.length
 | [], [] => by simp [cmpP, lexN]
 | [], _ :: _ => by simp [cmpP, lexN]
 | _ :: _, [] => by simp [cmpP, lexN]
 | (n, v) :: r, (n', v') :: r' => by simp [cmpP, lexN, cmpP_lex r r']
theorem size_field {x : V} {m : Int} {v : V} (h : (m, v) ∈ x.fields) : SizeOf.sizeOf v < SizeOf.sizeOf x := by
 cases x
 have := List.sizeOf_lt_of_mem h
 simp [V.fields] at this ⊢; omega
theorem size_list {x v : V} (h : v ∈ x.list) : SizeOf.sizeOf v < SizeOf.sizeOf x := by
 cases x
 have := List.sizeOf_lt_of_mem h
 simp [V.list] at this ⊢; omega
theorem size_pair {x k v : V} (h : (k, v) ∈ x.pairs) : SizeOf.sizeOf k < SizeOf.sizeOf x ∧ SizeOf.sizeOf v < SizeOf.sizeOf x := by
 cases x
 have := List.sizeOf_lt_of_mem h
 simp [V.pairs] at this ⊢; omega
end Go.Proofs.YtlmbcoecipbblaaGreatDoor.Val
namespace Go.Proofs.YtlmbcoecipbblaaGreatDoor
open Go.RowKit
open Val (V)
mutual
def VR (h : Frag) : V → List Value → Prop
 | .mk k n t fs r l ps, cs => ∃ fv lv pv fe le pe, cs = [.int .i64 k, .int .u64 n, .string t, fv, .string r, lv, pv] ∧ (t.size ≤ maxLen ∧ r.size ≤ maxLen) ∧
   (FlatC 8 h fv fe ∧ FlatC 7 h lv le ∧ FlatC 14 h pv pe) ∧ FsR h fs fe ∧ LsR h l le ∧ PsR h ps pe
def FsR (h : Frag) : List (Int × V) → List (List Value) → Prop
 | [], es => es = []
 | (n, x) :: r, es => ∃ xc er, es = (.int .i64 n :: xc) :: er ∧ VR h x xc ∧ FsR h r er
def LsR (h : Frag) : List V → List (List Value) → Prop
 | [], es => es = []
 | x :: r, es => ∃ xc er, es = xc :: er ∧ VR h x xc ∧ LsR h r er
def PsR (h : Frag) : List (V × V) → List (List Value) → Prop
 | [], es => es = []
 | (k, x) :: r, es => ∃ kc xc er, es = (kc ++ xc) :: er ∧ VR h k kc ∧ VR h x xc ∧ PsR h r er
end
mutual
theorem VR.mono {h h' : Frag} (hle : FLe h h') : ∀ {x : V} {cs : List Value}, VR h x cs → VR h' x cs
 | .mk k n t fs r l ps, cs, hv => by
  rw [VR] at hv ⊢
  obtain ⟨fv, lv, pv, fe, le, pe, h1, h2, ⟨h3, h4, h5⟩, h6, h7, h8⟩ := hv
  exact ⟨fv, lv, pv, fe, le, pe, h1, h2, ⟨h3.mono hle, h4.mono hle, h5.mono hle⟩, FsR.mono hle h6, LsR.mono hle h7, PsR.mono hle h8⟩
theorem FsR.mono {h h' : Frag} (hle : FLe h h') : ∀ {xs : List (Int × V)} {es : List (List Value)}, FsR h xs es → FsR h' xs es
 | [], es, hv => by rw [FsR] at hv ⊢; exact hv
 | (n, x) :: r, es, hv => by
  rw [FsR] at hv ⊢
  obtain ⟨xc, er, h1, h2, h3⟩ := hv
  exact ⟨xc, er, h1, VR.mono hle h2, FsR.mono hle h3⟩
theorem LsR.mono {h h' : Frag} (hle : FLe h h') : ∀ {xs : List V} {es : List (List Value)}, LsR h xs es → LsR h' xs es
 | [], es, hv => by rw [LsR] at hv ⊢; exact hv
 | x :: r, es, hv => by
  rw [LsR] at hv ⊢
  obtain ⟨xc, er, h1, h2, h3⟩ := hv
  exact ⟨xc, er, h1, VR.mono hle h2, LsR.mono hle h3⟩
theorem PsR.mono {h h' : Frag} (hle : FLe h h') : ∀ {xs : List (V × V)} {es : List (List Value)}, PsR h xs es → PsR h' xs es
 | [], es, hv => by rw [PsR] at hv ⊢; exact hv
 | (k, x) :: r, es, hv => by
  rw [PsR] at hv ⊢
  obtain ⟨kc, xc, er, h1, h2, h3, h4⟩ := hv
  exact ⟨kc, xc, er, h1, VR.mono hle h2, VR.mono hle h3, PsR.mono hle h4⟩
end
def Val7 (e : List Value) : Prop := ∃ (k n : Int) (t r : ByteArray) (a1 : Option Addr) (n1 c1 : Nat) (a2 : Option Addr) (n2 c2 : Nat) (a3 : Option Addr) (n3 c3 : Nat), e = [.int .i64 k, .int .u64 n, .string t, .slice a1 n1 c1, .string r, .slice a2 n2 c2, .slice a3 n3 c3]
def Fld8 (e : List Value) : Prop := ∃ (m : Int) (x : List Value), Val7 x ∧ e = .int .i64 m :: x
def Par14 (e : List Value) : Prop := ∃ x y : List Value, Val7 x ∧ Val7 y ∧ e = x ++ y
theorem VR.shape {h : Frag} {x : V} {cs : List Value} (hv : VR h x cs) : Val7 cs := by
 cases x
 rw [VR] at hv
 obtain ⟨fv, lv, pv, fe, le, pe, rfl, _, ⟨h1, h2, h3⟩, _⟩ := hv
 obtain ⟨a1, c1, rfl, _⟩ := h1.len
 obtain ⟨a2, c2, rfl, _⟩ := h2.len
 obtain ⟨a3, c3, rfl, _⟩ := h3.len
 exact ⟨_, _, _, _, _, _, _, _, _, _, _, _, _, rfl⟩
theorem VR.len {h : Frag} {x : V} {cs : List Value} (hv : VR h x cs) : cs.length = 7 := by
 cases x
 rw [VR] at hv
 obtain ⟨fv, lv, pv, fe, le, pe, rfl, _⟩ := hv
 rfl
theorem FsR.len {h : Frag} : ∀ {xs : List (Int × V)} {es : List (List Value)}, FsR h xs es → es.length = xs.length
 | [], es, hv => by rw [FsR] at hv; simp [hv]
 | (n, x) :: r, es, hv => by
  rw [FsR] at hv
  obtain ⟨xc, er, rfl, _, h3⟩ := hv
  simp [h3.len]
theorem LsR.len {h : Frag} : ∀ {xs : List V} {es : List (List Value)}, LsR h xs es → es.length = xs.length
 | [], es, hv => by rw [LsR] at hv; simp [hv]
 | x :: r, es, hv => by
  rw [LsR] at hv
  obtain ⟨xc, er, rfl, _, h3⟩ := hv
  simp [h3.len]
theorem PsR.len {h : Frag} : ∀ {xs : List (V × V)} {es : List (List Value)}, PsR h xs es → es.length = xs.length
 | [], es, hv => by rw [PsR] at hv; simp [hv]
 | (k, x) :: r, es, hv => by
  rw [PsR] at hv
  obtain ⟨kc, xc, er, rfl, _, _, h3⟩ := hv
  simp [h3.len]
theorem FsR.at {h : Frag} : ∀ {xs : List (Int × V)} {es : List (List Value)} (_ : FsR h xs es) {i : Nat} (hi : i < xs.length) (he : i < es.length), ∃ xc, es[i] = .int .i64 xs[i].1 :: xc ∧ VR h xs[i].2 xc
 | (n, x) :: r, es, hv, i, hi, he => by
  rw [FsR] at hv
  obtain ⟨xc, er, rfl, h2, h3⟩ := hv
  cases i with
  | zero => exact ⟨xc, rfl, h2⟩
  | succ i => exact h3.at (by simpa using hi) (by simpa using he)
theorem LsR.at {h : Frag} : ∀ {xs : List V} {es : List (List Value)} (_ : LsR h xs es) {i : Nat} (hi : i < xs.length) (he : i < es.length), VR h xs[i] es[i]
 | x :: r, es, hv, i, hi, he => by
  rw [LsR] at hv
  obtain ⟨xc, er, rfl, h2, h3⟩ := hv
  cases i with
  | zero => exact h2
  | succ i => exact h3.at (by simpa using hi) (by simpa using he)
theorem PsR.at {h : Frag} : ∀ {xs : List (V × V)} {es : List (List Value)} (_ : PsR h xs es) {i : Nat} (hi : i < xs.length) (he : i < es.length), ∃ kc xc, es[i] = kc ++ xc ∧ VR h xs[i].1 kc ∧ VR h xs[i].2 xc
 | (n, x) :: r, es, hv, i, hi, he => by
  rw [PsR] at hv
  obtain ⟨kc, xc, er, rfl, h1, h2, h3⟩ := hv
  cases i with
  | zero => exact ⟨kc, xc, rfl, h1, h2⟩
  | succ i => exact h3.at (by simpa using hi) (by simpa using he)
theorem FsR.shapes {h : Frag} {xs : List (Int × V)} {es : List (List Value)} (hv : FsR h xs es) : ∀ e ∈ es, Fld8 e := by
 intro e he
 obtain ⟨i, hi, rfl⟩ := List.getElem_of_mem he
 obtain ⟨xc, h1, h2⟩ := hv.at (i := i) (by rw [← hv.len]; exact hi) hi
 exact ⟨_, xc, h2.shape, h1⟩
theorem LsR.shapes {h : Frag} {xs : List V} {es : List (List Value)} (hv : LsR h xs es) : ∀ e ∈ es, Val7 e := by
 intro e he
 obtain ⟨i, hi, rfl⟩ := List.getElem_of_mem he
 exact (hv.at (i := i) (by rw [← hv.len]; exact hi) hi).shape
theorem PsR.shapes {h : Frag} {xs : List (V × V)} {es : List (List Value)} (hv : PsR h xs es) : ∀ e ∈ es, Par14 e := by
 intro e he
 obtain ⟨i, hi, rfl⟩ := List.getElem_of_mem he
 obtain ⟨kc, xc, h1, h2, h3⟩ := hv.at (i := i) (by rw [← hv.len]; exact hi) hi
 exact ⟨kc, xc, h2.shape, h3.shape, h1⟩
theorem FsR.snoc {h : Frag} : ∀ {xs : List (Int × V)} {es : List (List Value)} {n : Int} {x : V} {xc : List Value}, FsR h xs es → VR h x xc → FsR h (xs ++ [(n, x)]) (es ++ [.int .i64 n :: xc])
 | [], es, n, x, xc, hv, hx => by rw [FsR] at hv; subst hv; simp only [List.nil_append]; rw [FsR]; exact ⟨xc, [], rfl, hx, by rw [FsR]⟩
 | (m, y) :: r, es, n, x, xc, hv, hx => by
  rw [FsR] at hv
  obtain ⟨yc, er, rfl, h2, h3⟩ := hv
  simp only [List.cons_append]; rw [FsR]
  exact ⟨yc, _, rfl, h2, h3.snoc hx⟩
theorem LsR.snoc {h : Frag} : ∀ {xs : List V} {es : List (List Value)} {x : V} {xc : List Value}, LsR h xs es → VR h x xc → LsR h (xs ++ [x]) (es ++ [xc])
 | [], es, x, xc, hv, hx => by rw [LsR] at hv; subst hv; simp only [List.nil_append]; rw [LsR]; exact ⟨xc, [], rfl, hx, by rw [LsR]⟩
 | y :: r, es, x, xc, hv, hx => by
  rw [LsR] at hv
  obtain ⟨yc, er, rfl, h2, h3⟩ := hv
  simp only [List.cons_append]; rw [LsR]
  exact ⟨yc, _, rfl, h2, h3.snoc hx⟩
theorem PsR.snoc {h : Frag} : ∀ {xs : List (V × V)} {es : List (List Value)} {n x : V} {nc xc : List Value}, PsR h xs es → VR h n nc → VR h x xc → PsR h (xs ++ [(n, x)]) (es ++ [nc ++ xc])
 | [], es, n, x, nc, xc, hv, hn, hx => by rw [PsR] at hv; subst hv; simp only [List.nil_append]; rw [PsR]; exact ⟨nc, xc, [], rfl, hn, hx, by rw [PsR]⟩
 | (m, y) :: r, es, n, x, nc, xc, hv, hn, hx => by
  rw [PsR] at hv
  obtain ⟨mc, yc, er, rfl, h1, h2, h3⟩ := hv
  simp only [List.cons_append]; rw [PsR]
  exact ⟨mc, yc, _, rfl, h1, h2, h3.snoc hn hx⟩
end Go.Proofs.YtlmbcoecipbblaaGreatDoor
namespace Go.Proofs.YtlmbcoecipbblaaGreatDoor.Val
def bareV (k n : Int) (t : ByteArray) (nf : Nat) (r : ByteArray) (nl np : Nat) : Bool :=
 decide ((k = 1 ∨ n = 0) ∧ (k = 2 ∨ t.size = 0) ∧ (k = 3 ∨ nf = 0) ∧ (k = 3 ∨ r.size = 0) ∧ (k = 4 ∨ nl = 0) ∧ (k = 5 ∨ np = 0))
mutual
def right : V → Bool
 | .mk k n t fs r l ps => bareV k n t fs.length r l.length ps.length &&
   (if k = 0 ∨ k = 1 ∨ k = 2 then true else if k = 3 then rightF 0 fs else if k = 4 then decide (0 < l.length) && rightL l else if k = 5 then decide (0 < ps.length) && rightP none ps else false)
def rightF (last : Int) : List (Int × V) → Bool
 | [] => true
 | (n, v) :: r => decide (last < n ∧ n ≤ 536870911 ∧ v.kind ≠ 0) && right v && rightF n r
def rightL : List V → Bool
 | [] => true
 | v :: r => decide (1 ≤ v.kind ∧ v.kind ≤ 3) && right v && rightL r
def rightP (last : Option V) : List (V × V) → Bool
 | [] => true
 | (k, v) :: r => decide (k.kind = 1 ∨ k.kind = 2) && right k && (decide (1 ≤ v.kind ∧ v.kind ≤ 3) && right v) && (match last with | none => true | some p => decide (p.kind = k.kind) && decide (cmp p k < 0)) && rightP (some k) r
end
def partB (v : V) : Bool := decide (1 ≤ v.kind ∧ v.kind ≤ 3) && right v
theorem rightL_all : ∀ l : List V, rightL l = l.all partB
 | [] => by simp [rightL]
 | v :: r => by rw [rightL, rightL_all r]; rfl
def lastF (fs : List (Int × V)) (k : Nat) : Int := if k = 0 then 0 else (fs.getD (k - 1) (0, v0)).1
theorem lastF_succ {fs : List (Int × V)} {k : Nat} (h : k < fs.length) : lastF fs (k + 1) = fs[k].1 := by simp [lastF, h]
def lastP (ps : List (V × V)) (k : Nat) : Option V := if k = 0 then none else some (ps.getD (k - 1) (v0, v0)).1
theorem lastP_succ {ps : List (V × V)} {k : Nat} (h : k < ps.length) : lastP ps (k + 1) = some ps[k].1 := by simp [lastP, h]
theorem rightF_drop {fs : List (Int × V)} {k : Nat} {m : Int} (h : k < fs.length) : rightF m (fs.drop k) = (decide (m < fs[k].1 ∧ fs[k].1 ≤ 536870911 ∧ fs[k].2.kind ≠ 0) && right fs[k].2 && rightF fs[k].1 (fs.drop (k + 1))) := by
 rw [List.drop_eq_getElem_cons h]
 cases fs[k]
 rw [rightF]
theorem rightP_drop {ps : List (V × V)} {k : Nat} {m : Option V} (h : k < ps.length) : rightP m (ps.drop k) = (decide (ps[k].1.kind = 1 ∨ ps[k].1.kind = 2) && right ps[k].1 && (decide (1 ≤ ps[k].2.kind ∧ ps[k].2.kind ≤ 3) && right ps[k].2) && (match m with | none => true | some p => decide (p.kind = ps[k].1.kind) && decide (cmp p ps[k].1 < 0)) && rightP (some ps[k].1) (ps.drop (k + 1))) := by
 rw [List.drop_eq_getElem_cons h]
 cases ps[k]
 conv => lhs; rw [rightP.eq_def]
def firstGe (c : Nat → Int) : Nat → Nat
 | 0 => 0
 | n + 1 => if c 0 < 0 then firstGe (fun i => c (i + 1)) n + 1 else 0
theorem firstGe_of (c : Nat → Int) : ∀ (n i : Nat), i ≤ n → (∀ t, t < i → c t < 0) → (i < n → 0 ≤ c i) → firstGe c n = i
 | 0, i, h, _, _ => by simp [firstGe]; omega
 | n + 1, 0, _, _, h3 => by
  have := h3 (by omega)
  unfold firstGe; rw [if_neg (by omega)]
 | n + 1, i + 1, h1, h2, h3 => by
  unfold firstGe
  rw [if_pos (h2 0 (by omega)), firstGe_of (fun i => c (i + 1)) n i (by omega) (fun t ht => h2 (t + 1) (by omega)) (fun h => h3 (by omega))]
theorem firstGe_le (c : Nat → Int) : ∀ n, firstGe c n ≤ n
 | 0 => Nat.le_refl _
 | n + 1 => by
  unfold firstGe; split
  ·have := firstGe_le (fun i => c (i + 1)) n; omega
  ·omega
def cF (fs : List (Int × V)) (n : Int) (i : Nat) : Int := ocmp (fs.getD i (0, v0)).1 n
def posF (fs : List (Int × V)) (n : Int) : Nat := firstGe (cF fs n) fs.length
def hitF (fs : List (Int × V)) (n : Int) : Bool := decide (posF fs n < fs.length) && decide (cF fs n (posF fs n) = 0)
def get (v : V) (n : Int) : V := if v.kind = 3 ∧ hitF v.fields n = true then (v.fields.getD (posF v.fields n) (0, v0)).2 else v0
def cP (ps : List (V × V)) (k : V) (i : Nat) : Int := cmp (ps.getD i (v0, v0)).1 k
def posP (ps : List (V × V)) (k : V) : Nat := firstGe (cP ps k) ps.length
def hitP (ps : List (V × V)) (k : V) : Bool := decide (posP ps k < ps.length) && decide (cP ps k (posP ps k) = 0)
def find (v k : V) : V := if v.kind = 5 ∧ hitP v.pairs k = true then (v.pairs.getD (posP v.pairs k) (v0, v0)).2 else v0
def spl {α : Type} (l : List α) (at_ many : Nat) (put : Bool) (x : α) : List α := l.take at_ ++ ((if put then [x] else []) ++ l.drop (at_ + many))
def one (b : Bool) : Nat := if b then 1 else 0
def withV (v : V) (n : Int) (x : V) : V :=
 if v.kind = 3 ∧ 1 ≤ n ∧ n ≤ 536870911 then .mk v.kind v.num v.text (spl v.fields (posF v.fields n) (one (hitF v.fields n)) (decide (x.kind ≠ 0)) (n, x)) v.rest v.list v.pairs else v
def putP (v k x : V) : List (V × V) := spl v.pairs (posP v.pairs k) (one (hitP v.pairs k)) (decide (x.kind ≠ 0)) (k, x)
def putV (v k x : V) : V :=
 if v.kind = 5 ∨ v.kind = 0 then (if (putP v k x).length = 0 then v0 else .mk 5 0 ByteArray.empty [] ByteArray.empty [] (putP v k x)) else v
def MonoN (c : Nat → Int) (n : Nat) : Prop := ∀ i j, i ≤ j → j < n → c j < 0 → c i < 0
theorem posF_le (fs : List (Int × V)) (n : Int) : posF fs n + one (hitF fs n) ≤ fs.length := by
 have h1 : posF fs n ≤ fs.length := firstGe_le _ _
 unfold one hitF
 split
 ·rename_i h; simp at h; omega
 ·omega
theorem posP_le (ps : List (V × V)) (k : V) : posP ps k + one (hitP ps k) ≤ ps.length := by
 have h1 : posP ps k ≤ ps.length := firstGe_le _ _
 unfold one hitP
 split
 ·rename_i h; simp at h; omega
 ·omega
inductive E where
 | mk (kind : Int) (old new : V) (fields : List (Int × E)) (rests : Bool) (ro rn : ByteArray) (steps : List (Int × Int × V × E)) (keys : List (V × E))
def E.kind : E → Int | .mk k _ _ _ _ _ _ _ _ => k
def E.old : E → V | .mk _ o _ _ _ _ _ _ _ => o
def E.new : E → V | .mk _ _ n _ _ _ _ _ _ => n
def E.fields : E → List (Int × E) | .mk _ _ _ f _ _ _ _ _ => f
def E.rests : E → Bool | .mk _ _ _ _ r _ _ _ _ => r
def E.ro : E → ByteArray | .mk _ _ _ _ _ r _ _ _ => r
def E.rn : E → ByteArray | .mk _ _ _ _ _ _ r _ _ => r
def E.steps : E → List (Int × Int × V × E) | .mk _ _ _ _ _ _ _ s _ => s
def E.keys : E → List (V × E) | .mk _ _ _ _ _ _ _ _ k => k
def noneV (v : V) : Bool := decide (v.kind = 0) && right v
def bareE (k : Int) (o n : V) (nf : Nat) (r : Bool) (ro rn : ByteArray) (ns nk : Nat) : Bool :=
 (decide (k = 1) || noneV o) && ((decide (k = 1) || noneV n) && ((decide (k = 2) || decide (nf = 0)) && ((decide (k = 2) || !r) && ((decide (k = 2) || decide (ro.size + rn.size = 0)) && ((decide (k = 3) || decide (ns = 0)) && (decide (k = 4) || decide (nk = 0)))))))
def E.bare : E → Bool | .mk k o n f r ro rn s ks => bareE k o n f.length r ro rn s.length ks.length
mutual
def eright : E → Bool
 | .mk k o n f r ro rn s ks => bareE k o n f.length r ro rn s.length ks.length &&
   (if k = 0 then true else if k = 1 then right o && (right n && !decide (cmp o n = 0)) else
    if k = 2 then efields 0 f && (decide (r = decide (ro ≠ rn)) && ((r || decide (ro.size = 0)) && (r || decide (f ≠ [])))) else
    if k = 3 then esteps 0 false s else if k = 4 then decide (0 < ks.length) && ekeys none ks else false)
def efields (last : Int) : List (Int × E) → Bool
 | [] => true
 | (n, e) :: r => decide (last < n ∧ n ≤ 536870911) && (decide (e.kind ≠ 0) && eright e) && efields n r
def esteps (last : Int) (changes : Bool) : List (Int × Int × V × E) → Bool
 | [] => changes
 | (k, c, v, e) :: r =>
  (if k = 1 then decide (1 ≤ c ∧ c ≤ 1048576) && (noneV v && (decide (e.kind = 0) && e.bare)) else
   if k = 2 ∨ k = 3 then decide (c = 0) && (partB v && (decide (e.kind = 0) && e.bare)) else
   if k = 4 then decide (c = 0) && (noneV v && (decide (e.kind ≠ 0) && eright e)) else false) &&
  !(decide (last = 1 ∧ k = 1)) && !(decide (last = 3 ∧ k = 2)) && esteps k (changes || decide (k ≠ 1)) r
def ekeys (last : Option V) : List (V × E) → Bool
 | [] => true
 | (k, e) :: r => decide (k.kind = 1 ∨ k.kind = 2) && right k && (decide (e.kind ≠ 0) && eright e) && (match last with | none => true | some p => decide (p.kind = k.kind) && decide (cmp p k < 0)) && ekeys (some k) r
end
def esome (e : E) : Bool := decide (e.kind ≠ 0) && eright e
def stepRight (k c : Int) (v : V) (e : E) : Bool :=
 if k = 1 then decide (1 ≤ c ∧ c ≤ 1048576) && (noneV v && (decide (e.kind = 0) && e.bare)) else
 if k = 2 ∨ k = 3 then decide (c = 0) && (partB v && (decide (e.kind = 0) && e.bare)) else
 if k = 4 then decide (c = 0) && (noneV v && esome e) else false
mutual
def esm : E → Prop
 | .mk k o n f r ro rn s ks => (ro.size ≤ 1000 ∧ rn.size ≤ 1000) ∧ esmF f ∧ esmS s ∧ esmK ks
def esmF : List (Int × E) → Prop
 | [] => True
 | (n, e) :: r => esm e ∧ esmF r
def esmS : List (Int × Int × V × E) → Prop
 | [] => True
 | (k, c, v, e) :: r => esm e ∧ esmS r
def esmK : List (V × E) → Prop
 | [] => True
 | (k, e) :: r => esm e ∧ esmK r
end
theorem esmF_at : ∀ {l : List (Int × E)}, esmF l → ∀ e ∈ l, esm e.2
 | (n, x) :: r, h, e, he => by
  rw [esmF] at h
  rcases List.mem_cons.1 he with rfl | he
  ·exact h.1
  ·exact esmF_at h.2 e he
theorem esmS_at : ∀ {l : List (Int × Int × V × E)}, esmS l → ∀ e ∈ l, esm e.2.2.2
 | (k, c, v, x) :: r, h, e, he => by
  rw [esmS] at h
  rcases List.mem_cons.1 he with rfl | he
  ·exact h.1
  ·exact esmS_at h.2 e he
theorem esmK_at : ∀ {l : List (V × E)}, esmK l → ∀ e ∈ l, esm e.2
 | (k, x) :: r, h, e, he => by
  rw [esmK] at h
  rcases List.mem_cons.1 he with rfl | he
  ·exact h.1
  ·exact esmK_at h.2 e he
theorem noneV_v0 : noneV v0 = true := by
 unfold noneV v0
 rw [right]
 simp [V.kind, bareV]
theorem esize_field {x : E} {m : Int} {e : E} (h : (m, e) ∈ x.fields) : SizeOf.sizeOf e < SizeOf.sizeOf x := by
 cases x
 have := List.sizeOf_lt_of_mem h
 simp [E.fields] at this ⊢; omega
theorem esize_step {x : E} {k c : Int} {v : V} {e : E} (h : (k, c, v, e) ∈ x.steps) : SizeOf.sizeOf e < SizeOf.sizeOf x := by
 cases x
 have := List.sizeOf_lt_of_mem h
 simp [E.steps] at this ⊢; omega
theorem esize_key {x : E} {k : V} {e : E} (h : (k, e) ∈ x.keys) : SizeOf.sizeOf e < SizeOf.sizeOf x := by
 cases x
 have := List.sizeOf_lt_of_mem h
 simp [E.keys] at this ⊢; omega
end Go.Proofs.YtlmbcoecipbblaaGreatDoor.Val
namespace Go.Proofs.YtlmbcoecipbblaaGreatDoor
open Go.RowKit
open Val (V E)
mutual
def ER (h : Frag) : E → List Value → Prop
 | .mk k o n f r ro rn s ks, cs => ∃ oc nc fv sv kv fe se ke, cs = .int .i64 k :: (oc ++ (nc ++ [fv, .bool r, .string ro, .string rn, sv, kv])) ∧ (ro.size ≤ maxLen ∧ rn.size ≤ maxLen) ∧
   (VR h o oc ∧ VR h n nc) ∧ (FlatC 22 h fv fe ∧ FlatC 30 h sv se ∧ FlatC 28 h kv ke) ∧ EFs h f fe ∧ ESs h s se ∧ EKs h ks ke
def EFs (h : Frag) : List (Int × E) → List (List Value) → Prop
 | [], es => es = []
 | (n, x) :: r, es => ∃ xc er, es = (.int .i64 n :: xc) :: er ∧ ER h x xc ∧ EFs h r er
def ESs (h : Frag) : List (Int × Int × V × E) → List (List Value) → Prop
 | [], es => es = []
 | (k, c, v, x) :: r, es => ∃ vc xc er, es = (.int .i64 k :: .int .i64 c :: (vc ++ xc)) :: er ∧ VR h v vc ∧ ER h x xc ∧ ESs h r er
def EKs (h : Frag) : List (V × E) → List (List Value) → Prop
 | [], es => es = []
 | (k, x) :: r, es => ∃ kc xc er, es = (kc ++ xc) :: er ∧ VR h k kc ∧ ER h x xc ∧ EKs h r er
end
mutual
theorem ER.mono {h h' : Frag} (hle : FLe h h') : ∀ {x : E} {cs : List Value}, ER h x cs → ER h' x cs
 | .mk k o n f r ro rn s ks, cs, hv => by
  rw [ER] at hv ⊢
  obtain ⟨oc, nc, fv, sv, kv, fe, se, ke, h1, h2, ⟨h3, h4⟩, ⟨h5, h6, h7⟩, h8, h9, h10⟩ := hv
  exact ⟨oc, nc, fv, sv, kv, fe, se, ke, h1, h2, ⟨h3.mono hle, h4.mono hle⟩, ⟨h5.mono hle, h6.mono hle, h7.mono hle⟩, EFs.mono hle h8, ESs.mono hle h9, EKs.mono hle h10⟩
theorem EFs.mono {h h' : Frag} (hle : FLe h h') : ∀ {xs : List (Int × E)} {es : List (List Value)}, EFs h xs es → EFs h' xs es
 | [], es, hv => by rw [EFs] at hv ⊢; exact hv
 | (n, x) :: r, es, hv => by
  rw [EFs] at hv ⊢
  obtain ⟨xc, er, h1, h2, h3⟩ := hv
  exact ⟨xc, er, h1, ER.mono hle h2, EFs.mono hle h3⟩
theorem ESs.mono {h h' : Frag} (hle : FLe h h') : ∀ {xs : List (Int × Int × V × E)} {es : List (List Value)}, ESs h xs es → ESs h' xs es
 | [], es, hv => by rw [ESs] at hv ⊢; exact hv
 | (k, c, v, x) :: r, es, hv => by
  rw [ESs] at hv ⊢
  obtain ⟨vc, xc, er, h1, h2, h3, h4⟩ := hv
  exact ⟨vc, xc, er, h1, h2.mono hle, ER.mono hle h3, ESs.mono hle h4⟩
theorem EKs.mono {h h' : Frag} (hle : FLe h h') : ∀ {xs : List (V × E)} {es : List (List Value)}, EKs h xs es → EKs h' xs es
 | [], es, hv => by rw [EKs] at hv ⊢; exact hv
 | (k, x) :: r, es, hv => by
  rw [EKs] at hv ⊢
  obtain ⟨kc, xc, er, h1, h2, h3, h4⟩ := hv
  exact ⟨kc, xc, er, h1, h2.mono hle, ER.mono hle h3, EKs.mono hle h4⟩
end
def Ed21 (e : List Value) : Prop := ∃ (k : Int) (x y : List Value) (a1 : Option Addr) (n1 c1 : Nat) (b : Bool) (t r : ByteArray) (a2 : Option Addr) (n2 c2 : Nat) (a3 : Option Addr) (n3 c3 : Nat), Val7 x ∧ Val7 y ∧
 e = .int .i64 k :: (x ++ (y ++ [.slice a1 n1 c1, .bool b, .string t, .string r, .slice a2 n2 c2, .slice a3 n3 c3]))
theorem ER.shape {h : Frag} {x : E} {cs : List Value} (hv : ER h x cs) : Ed21 cs := by
 cases x
 rw [ER] at hv
 obtain ⟨oc, nc, fv, sv, kv, fe, se, ke, rfl, _, ⟨h1, h2⟩, ⟨h5, h6, h7⟩, _⟩ := hv
 obtain ⟨a1, c1, rfl, _⟩ := h5.len
 obtain ⟨a2, c2, rfl, _⟩ := h6.len
 obtain ⟨a3, c3, rfl, _⟩ := h7.len
 exact ⟨_, oc, nc, _, _, _, _, _, _, _, _, _, _, _, _, h1.shape, h2.shape, rfl⟩
theorem Ed21.len {e : List Value} (h : Ed21 e) : e.length = 21 := by
 obtain ⟨k, x, y, a1, n1, c1, b, t, r, a2, n2, c2, a3, n3, c3, ⟨_, _, _, _, _, _, _, _, _, _, _, _, _, rfl⟩, ⟨_, _, _, _, _, _, _, _, _, _, _, _, _, rfl⟩, rfl⟩ := h
 rfl
theorem ER.len {h : Frag} {x : E} {cs : List Value} (hx : ER h x cs) : cs.length = 21 := hx.shape.len
theorem EFs.len {h : Frag} : ∀ {xs : List (Int × E)} {es : List (List Value)}, EFs h xs es → es.length = xs.length
 | [], es, hv => by rw [EFs] at hv; simp [hv]
 | (n, x) :: r, es, hv => by
  rw [EFs] at hv
  obtain ⟨xc, er, rfl, _, h3⟩ := hv
  simp [h3.len]
theorem ESs.len {h : Frag} : ∀ {xs : List (Int × Int × V × E)} {es : List (List Value)}, ESs h xs es → es.length = xs.length
 | [], es, hv => by rw [ESs] at hv; simp [hv]
 | (k, c, v, x) :: r, es, hv => by
  rw [ESs] at hv
  obtain ⟨vc, xc, er, rfl, _, _, h3⟩ := hv
  simp [h3.len]
theorem EKs.len {h : Frag} : ∀ {xs : List (V × E)} {es : List (List Value)}, EKs h xs es → es.length = xs.length
 | [], es, hv => by rw [EKs] at hv; simp [hv]
 | (k, x) :: r, es, hv => by
  rw [EKs] at hv
  obtain ⟨kc, xc, er, rfl, _, _, h3⟩ := hv
  simp [h3.len]
theorem EFs.at {h : Frag} : ∀ {xs : List (Int × E)} {es : List (List Value)} (_ : EFs h xs es) {i : Nat} (hi : i < xs.length) (he : i < es.length), ∃ xc, es[i] = .int .i64 xs[i].1 :: xc ∧ ER h xs[i].2 xc
 | (n, x) :: r, es, hv, i, hi, he => by
  rw [EFs] at hv
  obtain ⟨xc, er, rfl, h2, h3⟩ := hv
  cases i with
  | zero => exact ⟨xc, rfl, h2⟩
  | succ i => exact h3.at (by simpa using hi) (by simpa using he)
theorem ESs.at {h : Frag} : ∀ {xs : List (Int × Int × V × E)} {es : List (List Value)} (_ : ESs h xs es) {i : Nat} (hi : i < xs.length) (he : i < es.length), ∃ vc xc, es[i] = .int .i64 xs[i].1 :: .int .i64 xs[i].2.1 :: (vc ++ xc) ∧ VR h xs[i].2.2.1 vc ∧ ER h xs[i].2.2.2 xc
 | (k, c, v, x) :: r, es, hv, i, hi, he => by
  rw [ESs] at hv
  obtain ⟨vc, xc, er, rfl, h1, h2, h3⟩ := hv
  cases i with
  | zero => exact ⟨vc, xc, rfl, h1, h2⟩
  | succ i => exact h3.at (by simpa using hi) (by simpa using he)
theorem EKs.at {h : Frag} : ∀ {xs : List (V × E)} {es : List (List Value)} (_ : EKs h xs es) {i : Nat} (hi : i < xs.length) (he : i < es.length), ∃ kc xc, es[i] = kc ++ xc ∧ VR h xs[i].1 kc ∧ ER h xs[i].2 xc
 | (k, x) :: r, es, hv, i, hi, he => by
  rw [EKs] at hv
  obtain ⟨kc, xc, er, rfl, h1, h2, h3⟩ := hv
  cases i with
  | zero => exact ⟨kc, xc, rfl, h1, h2⟩
  | succ i => exact h3.at (by simpa using hi) (by simpa using he)
theorem sizeEF (w : World) : (Go.sizeOf (Tryz.prog.elem 28)).run Tryz.prog w = .ok 22 w := by kernel_rfl
theorem sizeES (w : World) : (Go.sizeOf (Tryz.prog.elem 29)).run Tryz.prog w = .ok 30 w := by kernel_rfl
theorem sizeEK (w : World) : (Go.sizeOf (Tryz.prog.elem 30)).run Tryz.prog w = .ok 28 w := by kernel_rfl
end Go.Proofs.YtlmbcoecipbblaaGreatDoor
