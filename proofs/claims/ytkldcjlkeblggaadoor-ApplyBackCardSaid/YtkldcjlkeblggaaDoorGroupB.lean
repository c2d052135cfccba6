/- Plain facts: values as trees, and which one comes first. -/
import GoSem.Op.String
import Derived.Lib.Strings

namespace Go.Proofs.YtkldcjlkeblggaaDoor.Val

inductive V where
  | mk (kind num : Int) (text : ByteArray) (fields : List (Int × V)) (rest : ByteArray) (list : List V) (pairs : List (V × V))
def V.kind : V → Int | .mk k _ _ _ _ _ _ => k
def V.num : V → Int | .mk _ n _ _ _ _ _ => n
def V.text : V → ByteArray | .mk _ _ t _ _ _ _ => t
def V.fields : V → List (Int × V) | .mk _ _ _ f _ _ _ => f
def V.rest : V → ByteArray | .mk _ _ _ _ r _ _ => r
def V.list : V → List V | .mk _ _ _ _ _ l _ => l
def V.pairs : V → List (V × V) | .mk _ _ _ _ _ _ p => p

def ocmp (a b : Int) : Int := if a < b then -1 else if b < a then 1 else 0
def orr (a b : Int) : Int := if a = 0 then b else a
def scmp (a b : ByteArray) : Int := if Op.bytesLess a.toList b.toList then -1 else if a.toList = b.toList then 0 else 1

mutual
def cmp : V → V → Int
  | .mk k n t fs r l ps, .mk k' n' t' fs' r' l' ps' =>
    if k = k' then
      if k = 1 then ocmp n n' else if k = 2 then scmp t t' else if k = 3 then orr (cmpF fs fs') (scmp r r') else if k = 4 then cmpL l l' else if k = 5 then cmpP ps ps' else 0
    else ocmp k k'
def cmpF : List (Int × V) → List (Int × V) → Int
  | [], [] => 0
  | [], _ :: _ => -1
  | _ :: _, [] => 1
  | (n, v) :: r, (n', v') :: r' => orr (orr (ocmp n n') (cmp v v')) (cmpF r r')
def cmpL : List V → List V → Int
  | [], [] => 0
  | [], _ :: _ => -1
  | _ :: _, [] => 1
  | v :: r, v' :: r' => orr (cmp v v') (cmpL r r')
def cmpP : List (V × V) → List (V × V) → Int
  | [], [] => 0
  | [], _ :: _ => -1
  | _ :: _, [] => 1
  | (k, v) :: r, (k', v') :: r' => orr (orr (cmp k k') (cmp v v')) (cmpP r r')
end

/-- the first of n numbers that is none; else what the lengths tell -/
def lexN (c : Nat → Int) : Nat → Nat → Int
  | 0, 0 => 0
  | 0, _ + 1 => -1
  | _ + 1, 0 => 1
  | n + 1, m + 1 => orr (c 0) (lexN (fun i => c (i + 1)) n m)

theorem lexN_hit (c : Nat → Int) : ∀ (n m k : Nat), k < n → k < m → (∀ j, j < k → c j = 0) → c k ≠ 0 → lexN c n m = c k
  | n + 1, m + 1, 0, _, _, _, h => by simp [lexN, orr, h]
  | n + 1, m + 1, k + 1, h1, h2, h3, h4 => by
    have h0 := h3 0 (by omega)
    simp only [lexN, orr, h0, if_true]
    exact lexN_hit (fun i => c (i + 1)) n m k (by omega) (by omega) (fun j hj => h3 (j + 1) (by omega)) h4
theorem lexN_end (c : Nat → Int) : ∀ (n m : Nat), (∀ j, j < n → j < m → c j = 0) → lexN c n m = if n < m then -1 else if m < n then 1 else 0
  | 0, 0, _ => by simp [lexN]
  | 0, m + 1, _ => by simp [lexN]
  | n + 1, 0, _ => by simp [lexN]
  | n + 1, m + 1, h => by
    have h0 := h 0 (by omega) (by omega)
    simp only [lexN, orr, h0, if_true]
    rw [lexN_end (fun i => c (i + 1)) n m (fun j h1 h2 => h (j + 1) (by omega) (by omega))]
    simp
theorem lexN_congr (c d : Nat → Int) : ∀ (n m : Nat), (∀ j, j < n → j < m → c j = d j) → lexN c n m = lexN d n m
  | 0, 0, _ => rfl
  | 0, m + 1, _ => rfl
  | n + 1, 0, _ => rfl
  | n + 1, m + 1, h => by
    simp only [lexN]
    rw [h 0 (by omega) (by omega), lexN_congr _ _ n m (fun j h1 h2 => h (j + 1) (by omega) (by omega))]

def v0 : V := .mk 0 0 ByteArray.empty [] ByteArray.empty [] []
theorem cmpF_lex : ∀ fs gs : List (Int × V), cmpF fs gs = lexN (fun i => orr (ocmp (fs.getD i (0, v0)).1 (gs.getD i (0, v0)).1) (cmp (fs.getD i (0, v0)).2 (gs.getD i (0, v0)).2)) fs.length gs.length
  | [], [] => by simp [cmpF, lexN]
  | [], _ :: _ => by simp [cmpF, lexN]
  | _ :: _, [] => by simp [cmpF, lexN]
  | (n, v) :: r, (n', v') :: r' => by simp [cmpF, lexN, cmpF_lex r r']
theorem cmpL_lex : ∀ fs gs : List V, cmpL fs gs = lexN (fun i => cmp (fs.getD i v0) (gs.getD i v0)) fs.length gs.length
  | [], [] => by simp [cmpL, lexN]
  | [], _ :: _ => by simp [cmpL, lexN]
  | _ :: _, [] => by simp [cmpL, lexN]
  | v :: r, v' :: r' => by simp [cmpL, lexN, cmpL_lex r r']
theorem cmpP_lex : ∀ fs gs : List (V × V), cmpP fs gs = lexN (fun i => orr (cmp (fs.getD i (v0, v0)).1 (gs.getD i (v0, v0)).1) (cmp (fs.getD i (v0, v0)).2 (gs.getD i (v0, v0)).2)) fs.length gs.length
  | [], [] => by simp [cmpP, lexN]
  | [], _ :: _ => by simp [cmpP, lexN]
  | _ :: _, [] => by simp [cmpP, lexN]
  | (n, v) :: r, (n', v') :: r' => by simp [cmpP, lexN, cmpP_lex r r']

theorem size_field {x : V} {m : Int} {v : V} (h : (m, v) ∈ x.fields) : SizeOf.sizeOf v < SizeOf.sizeOf x := by
  cases x
  have := List.sizeOf_lt_of_mem h
  simp [V.fields] at this ⊢; omega
theorem size_list {x v : V} (h : v ∈ x.list) : SizeOf.sizeOf v < SizeOf.sizeOf x := by
  cases x
  have := List.sizeOf_lt_of_mem h
  simp [V.list] at this ⊢; omega
theorem size_pair {x k v : V} (h : (k, v) ∈ x.pairs) : SizeOf.sizeOf k < SizeOf.sizeOf x ∧ SizeOf.sizeOf v < SizeOf.sizeOf x := by
  cases x
  have := List.sizeOf_lt_of_mem h
  simp [V.pairs] at this ⊢; omega

end Go.Proofs.YtkldcjlkeblggaaDoor.Val

/- Plain facts: the first place where a row of numbers is not below 0. -/
namespace Go.Proofs.YtkldcjlkeblggaaDoor.Val

def firstGe (c : Nat → Int) : Nat → Nat
  | 0 => 0
  | n + 1 => if c 0 < 0 then firstGe (fun i => c (i + 1)) n + 1 else 0
theorem firstGe_of (c : Nat → Int) : ∀ (n i : Nat), i ≤ n → (∀ t, t < i → c t < 0) → (i < n → 0 ≤ c i) → firstGe c n = i
  | 0, i, h, _, _ => by simp [firstGe]; omega
  | n + 1, 0, _, _, h3 => by
    have := h3 (by omega)
    unfold firstGe; rw [if_neg (by omega)]
  | n + 1, i + 1, h1, h2, h3 => by
    unfold firstGe
    rw [if_pos (h2 0 (by omega)), firstGe_of (fun i => c (i + 1)) n i (by omega) (fun t ht => h2 (t + 1) (by omega)) (fun h => h3 (by omega))]
theorem firstGe_le (c : Nat → Int) : ∀ n, firstGe c n ≤ n
  | 0 => Nat.le_refl _
  | n + 1 => by
    unfold firstGe; split
    · have := firstGe_le (fun i => c (i + 1)) n; omega
    · omega
theorem firstGe_below (c : Nat → Int) : ∀ (n t : Nat), t < firstGe c n → c t < 0
  | 0, t, h => by simp [firstGe] at h
  | n + 1, t, h => by
    unfold firstGe at h
    split at h
    · rename_i h0
      cases t with
      | zero => exact h0
      | succ t => exact firstGe_below (fun i => c (i + 1)) n t (by omega)
    · omega
theorem firstGe_hit (c : Nat → Int) : ∀ (n : Nat), firstGe c n < n → 0 ≤ c (firstGe c n)
  | 0, h => by omega
  | n + 1, h => by
    unfold firstGe at h ⊢
    split at h
    · rename_i h0
      rw [if_pos h0]
      exact firstGe_hit (fun i => c (i + 1)) n (by omega)
    · rename_i h0
      rw [if_neg h0]; omega

end Go.Proofs.YtkldcjlkeblggaaDoor.Val

/- Plain facts: which values are right. -/
namespace Go.Proofs.YtkldcjlkeblggaaDoor.Val

/-- nothing that its kind doesn't have -/
def bareV (k n : Int) (t : ByteArray) (nf : Nat) (r : ByteArray) (nl np : Nat) : Bool :=
  decide ((k = 1 ∨ n = 0) ∧ (k = 2 ∨ t.size = 0) ∧ (k = 3 ∨ nf = 0) ∧ (k = 3 ∨ r.size = 0) ∧ (k = 4 ∨ nl = 0) ∧ (k = 5 ∨ np = 0))

mutual
def right : V → Bool
  | .mk k n t fs r l ps => bareV k n t fs.length r l.length ps.length &&
      (if k = 0 ∨ k = 1 ∨ k = 2 then true else if k = 3 then rightF 0 fs else if k = 4 then decide (0 < l.length) && rightL l else if k = 5 then decide (0 < ps.length) && rightP none ps else false)
def rightF (last : Int) : List (Int × V) → Bool
  | [] => true
  | (n, v) :: r => decide (last < n ∧ n ≤ 536870911 ∧ v.kind ≠ 0) && right v && rightF n r
def rightL : List V → Bool
  | [] => true
  | v :: r => decide (1 ≤ v.kind ∧ v.kind ≤ 3) && right v && rightL r
def rightP (last : Option V) : List (V × V) → Bool
  | [] => true
  | (k, v) :: r => decide (k.kind = 1 ∨ k.kind = 2) && right k && (decide (1 ≤ v.kind ∧ v.kind ≤ 3) && right v) && (match last with | none => true | some p => decide (p.kind = k.kind) && decide (cmp p k < 0)) && rightP (some k) r
end
def partB (v : V) : Bool := decide (1 ≤ v.kind ∧ v.kind ≤ 3) && right v

theorem rightL_all : ∀ l : List V, rightL l = l.all partB
  | [] => by simp [rightL]
  | v :: r => by rw [rightL, rightL_all r]; rfl
/-- the last field's number ahead of a place -/
def lastF (fs : List (Int × V)) (k : Nat) : Int := if k = 0 then 0 else (fs.getD (k - 1) (0, v0)).1
theorem lastF_succ {fs : List (Int × V)} {k : Nat} (h : k < fs.length) : lastF fs (k + 1) = fs[k].1 := by simp [lastF, h]
def lastP (ps : List (V × V)) (k : Nat) : Option V := if k = 0 then none else some (ps.getD (k - 1) (v0, v0)).1
theorem lastP_succ {ps : List (V × V)} {k : Nat} (h : k < ps.length) : lastP ps (k + 1) = some ps[k].1 := by simp [lastP, h]

theorem rightF_drop {fs : List (Int × V)} {k : Nat} {m : Int} (h : k < fs.length) : rightF m (fs.drop k) = (decide (m < fs[k].1 ∧ fs[k].1 ≤ 536870911 ∧ fs[k].2.kind ≠ 0) && right fs[k].2 && rightF fs[k].1 (fs.drop (k + 1))) := by
  rw [List.drop_eq_getElem_cons h]
  cases fs[k]
  rw [rightF]
theorem rightP_drop {ps : List (V × V)} {k : Nat} {m : Option V} (h : k < ps.length) : rightP m (ps.drop k) = (decide (ps[k].1.kind = 1 ∨ ps[k].1.kind = 2) && right ps[k].1 && (decide (1 ≤ ps[k].2.kind ∧ ps[k].2.kind ≤ 3) && right ps[k].2) && (match m with | none => true | some p => decide (p.kind = ps[k].1.kind) && decide (cmp p ps[k].1 < 0)) && rightP (some ps[k].1) (ps.drop (k + 1))) := by
  rw [List.drop_eq_getElem_cons h]
  cases ps[k]
  conv => lhs; rw [rightP.eq_def]

end Go.Proofs.YtkldcjlkeblggaaDoor.Val

/- Plain facts: fields and pairs got, put. -/
namespace Go.Proofs.YtkldcjlkeblggaaDoor.Val

def cF (fs : List (Int × V)) (n : Int) (i : Nat) : Int := ocmp (fs.getD i (0, v0)).1 n
def posF (fs : List (Int × V)) (n : Int) : Nat := firstGe (cF fs n) fs.length
def hitF (fs : List (Int × V)) (n : Int) : Bool := decide (posF fs n < fs.length) && decide (cF fs n (posF fs n) = 0)
def get (v : V) (n : Int) : V := if v.kind = 3 ∧ hitF v.fields n = true then (v.fields.getD (posF v.fields n) (0, v0)).2 else v0
def cP (ps : List (V × V)) (k : V) (i : Nat) : Int := cmp (ps.getD i (v0, v0)).1 k
def posP (ps : List (V × V)) (k : V) : Nat := firstGe (cP ps k) ps.length
def hitP (ps : List (V × V)) (k : V) : Bool := decide (posP ps k < ps.length) && decide (cP ps k (posP ps k) = 0)
def find (v k : V) : V := if v.kind = 5 ∧ hitP v.pairs k = true then (v.pairs.getD (posP v.pairs k) (v0, v0)).2 else v0
/-- a list with one thing at a place, or none, in place of so many -/
def spl {α : Type} (l : List α) (at_ many : Nat) (put : Bool) (x : α) : List α := l.take at_ ++ ((if put then [x] else []) ++ l.drop (at_ + many))
def one (b : Bool) : Nat := if b then 1 else 0
def withV (v : V) (n : Int) (x : V) : V :=
  if v.kind = 3 ∧ 1 ≤ n ∧ n ≤ 536870911 then .mk v.kind v.num v.text (spl v.fields (posF v.fields n) (one (hitF v.fields n)) (decide (x.kind ≠ 0)) (n, x)) v.rest v.list v.pairs else v
def putP (v k x : V) : List (V × V) := spl v.pairs (posP v.pairs k) (one (hitP v.pairs k)) (decide (x.kind ≠ 0)) (k, x)
def putV (v k x : V) : V :=
  if v.kind = 5 ∨ v.kind = 0 then (if (putP v k x).length = 0 then v0 else .mk 5 0 ByteArray.empty [] ByteArray.empty [] (putP v k x)) else v

def MonoN (c : Nat → Int) (n : Nat) : Prop := ∀ i j, i ≤ j → j < n → c j < 0 → c i < 0

theorem posF_le (fs : List (Int × V)) (n : Int) : posF fs n + one (hitF fs n) ≤ fs.length := by
  have h1 : posF fs n ≤ fs.length := firstGe_le _ _
  unfold one hitF
  split
  · rename_i h; simp at h; omega
  · omega
theorem posP_le (ps : List (V × V)) (k : V) : posP ps k + one (hitP ps k) ≤ ps.length := by
  have h1 : posP ps k ≤ ps.length := firstGe_le _ _
  unfold one hitP
  split
  · rename_i h; simp at h; omega
  · omega

end Go.Proofs.YtkldcjlkeblggaaDoor.Val

/- Plain facts: edits as trees, and which ones are right. -/
namespace Go.Proofs.YtkldcjlkeblggaaDoor.Val
set_option linter.unusedVariables false

inductive E where
  | mk (kind : Int) (old new : V) (fields : List (Int × E)) (rests : Bool) (ro rn : ByteArray) (steps : List (Int × Int × V × E)) (keys : List (V × E))
def E.kind : E → Int | .mk k _ _ _ _ _ _ _ _ => k
def E.old : E → V | .mk _ o _ _ _ _ _ _ _ => o
def E.new : E → V | .mk _ _ n _ _ _ _ _ _ => n
def E.fields : E → List (Int × E) | .mk _ _ _ f _ _ _ _ _ => f
def E.rests : E → Bool | .mk _ _ _ _ r _ _ _ _ => r
def E.ro : E → ByteArray | .mk _ _ _ _ _ r _ _ _ => r
def E.rn : E → ByteArray | .mk _ _ _ _ _ _ r _ _ => r
def E.steps : E → List (Int × Int × V × E) | .mk _ _ _ _ _ _ _ s _ => s
def E.keys : E → List (V × E) | .mk _ _ _ _ _ _ _ _ k => k

def noneV (v : V) : Bool := decide (v.kind = 0) && right v
/-- nothing that its kind doesn't have -/
def bareE (k : Int) (o n : V) (nf : Nat) (r : Bool) (ro rn : ByteArray) (ns nk : Nat) : Bool :=
  (decide (k = 1) || noneV o) && ((decide (k = 1) || noneV n) && ((decide (k = 2) || decide (nf = 0)) && ((decide (k = 2) || !r) && ((decide (k = 2) || decide (ro.size + rn.size = 0)) && ((decide (k = 3) || decide (ns = 0)) && (decide (k = 4) || decide (nk = 0)))))))
def E.bare : E → Bool | .mk k o n f r ro rn s ks => bareE k o n f.length r ro rn s.length ks.length

mutual
def eright : E → Bool
  | .mk k o n f r ro rn s ks => bareE k o n f.length r ro rn s.length ks.length &&
      (if k = 0 then true else if k = 1 then right o && (right n && !decide (cmp o n = 0)) else
       if k = 2 then efields 0 f && (decide (r = decide (ro ≠ rn)) && ((r || decide (ro.size = 0)) && (r || decide (f ≠ [])))) else
       if k = 3 then esteps 0 false s else if k = 4 then decide (0 < ks.length) && ekeys none ks else false)
def efields (last : Int) : List (Int × E) → Bool
  | [] => true
  | (n, e) :: r => decide (last < n ∧ n ≤ 536870911) && (decide (e.kind ≠ 0) && eright e) && efields n r
def esteps (last : Int) (changes : Bool) : List (Int × Int × V × E) → Bool
  | [] => changes
  | (k, c, v, e) :: r =>
    (if k = 1 then decide (1 ≤ c ∧ c ≤ 1048576) && (noneV v && (decide (e.kind = 0) && e.bare)) else
     if k = 2 ∨ k = 3 then decide (c = 0) && (partB v && (decide (e.kind = 0) && e.bare)) else
     if k = 4 then decide (c = 0) && (noneV v && (decide (e.kind ≠ 0) && eright e)) else false) &&
    !(decide (last = 1 ∧ k = 1)) && !(decide (last = 3 ∧ k = 2)) && esteps k (changes || decide (k ≠ 1)) r
def ekeys (last : Option V) : List (V × E) → Bool
  | [] => true
  | (k, e) :: r => decide (k.kind = 1 ∨ k.kind = 2) && right k && (decide (e.kind ≠ 0) && eright e) && (match last with | none => true | some p => decide (p.kind = k.kind) && decide (cmp p k < 0)) && ekeys (some k) r
end
def esome (e : E) : Bool := decide (e.kind ≠ 0) && eright e
def stepRight (k c : Int) (v : V) (e : E) : Bool :=
  if k = 1 then decide (1 ≤ c ∧ c ≤ 1048576) && (noneV v && (decide (e.kind = 0) && e.bare)) else
  if k = 2 ∨ k = 3 then decide (c = 0) && (partB v && (decide (e.kind = 0) && e.bare)) else
  if k = 4 then decide (c = 0) && (noneV v && esome e) else false

mutual
/-- no long rests and lists -/
def esm : E → Prop
  | .mk k o n f r ro rn s ks => (ro.size ≤ 1000 ∧ rn.size ≤ 1000) ∧ esmF f ∧ esmS s ∧ esmK ks
def esmF : List (Int × E) → Prop
  | [] => True
  | (n, e) :: r => esm e ∧ esmF r
def esmS : List (Int × Int × V × E) → Prop
  | [] => True
  | (k, c, v, e) :: r => esm e ∧ esmS r
def esmK : List (V × E) → Prop
  | [] => True
  | (k, e) :: r => esm e ∧ esmK r
end
theorem esmF_at : ∀ {l : List (Int × E)}, esmF l → ∀ e ∈ l, esm e.2
  | (n, x) :: r, h, e, he => by
    rw [esmF] at h
    rcases List.mem_cons.1 he with rfl | he
    · exact h.1
    · exact esmF_at h.2 e he
theorem esmS_at : ∀ {l : List (Int × Int × V × E)}, esmS l → ∀ e ∈ l, esm e.2.2.2
  | (k, c, v, x) :: r, h, e, he => by
    rw [esmS] at h
    rcases List.mem_cons.1 he with rfl | he
    · exact h.1
    · exact esmS_at h.2 e he
theorem esmK_at : ∀ {l : List (V × E)}, esmK l → ∀ e ∈ l, esm e.2
  | (k, x) :: r, h, e, he => by
    rw [esmK] at h
    rcases List.mem_cons.1 he with rfl | he
    · exact h.1
    · exact esmK_at h.2 e he

theorem noneV_v0 : noneV v0 = true := by
  unfold noneV v0
  rw [right]
  simp [V.kind, bareV]

theorem esize_field {x : E} {m : Int} {e : E} (h : (m, e) ∈ x.fields) : SizeOf.sizeOf e < SizeOf.sizeOf x := by
  cases x
  have := List.sizeOf_lt_of_mem h
  simp [E.fields] at this ⊢; omega
theorem esize_step {x : E} {k c : Int} {v : V} {e : E} (h : (k, c, v, e) ∈ x.steps) : SizeOf.sizeOf e < SizeOf.sizeOf x := by
  cases x
  have := List.sizeOf_lt_of_mem h
  simp [E.steps] at this ⊢; omega
theorem esize_key {x : E} {k : V} {e : E} (h : (k, e) ∈ x.keys) : SizeOf.sizeOf e < SizeOf.sizeOf x := by
  cases x
  have := List.sizeOf_lt_of_mem h
  simp [E.keys] at this ⊢; omega

end Go.Proofs.YtkldcjlkeblggaaDoor.Val

/- Plain facts: the order of values; right values that are the same are one. -/
namespace Go.Proofs.YtkldcjlkeblggaaDoor.Val
set_option linter.unusedVariables false

theorem ocmp_refl (a : Int) : ocmp a a = 0 := by simp [ocmp]
theorem ocmp_zero {a b : Int} (h : ocmp a b = 0) : a = b := by
  unfold ocmp at h; split at h
  · cases h
  · split at h
    · cases h
    · omega
theorem ocmp_neg {a b : Int} : ocmp a b < 0 ↔ a < b := by
  unfold ocmp; split
  · simp [*]
  · split <;> simp <;> omega
theorem ocmp_pos {a b : Int} : 0 < ocmp a b ↔ b < a := by
  unfold ocmp; split
  · simp; omega
  · split <;> simp <;> omega
theorem less_irrefl : ∀ l : List UInt8, Op.bytesLess l l = false
  | [] => rfl
  | a :: r => by
    have h := less_irrefl r
    simp [Op.bytesLess, h]
theorem less_trans : ∀ {a b c : List UInt8}, Op.bytesLess a b = true → Op.bytesLess b c = true → Op.bytesLess a c = true
  | [], _ :: _, _ :: _, _, _ => rfl
  | a :: x, b :: y, c :: z, h1, h2 => by
    simp only [Op.bytesLess, Bool.or_eq_true, decide_eq_true_eq, Bool.and_eq_true, beq_iff_eq] at *
    rcases h1 with h1 | ⟨rfl, h1⟩
    · rcases h2 with h2 | ⟨rfl, h2⟩
      · left; exact UInt8.lt_trans h1 h2
      · left; exact h1
    · rcases h2 with h2 | ⟨rfl, h2⟩
      · left; exact h2
      · right; exact ⟨rfl, less_trans h1 h2⟩
theorem less_total : ∀ (a b : List UInt8), Op.bytesLess a b = false → a ≠ b → Op.bytesLess b a = true
  | [], [], _, h => absurd rfl h
  | [], _ :: _, h, _ => by simp [Op.bytesLess] at h
  | _ :: _, [], _, _ => rfl
  | a :: x, b :: y, h, hne => by
    simp only [Op.bytesLess, Bool.or_eq_false_iff, decide_eq_false_iff_not, Bool.and_eq_false_iff, beq_eq_false_iff_ne, Bool.or_eq_true, decide_eq_true_eq, Bool.and_eq_true, beq_iff_eq] at *
    obtain ⟨h1, h2⟩ := h
    by_cases e : a = b
    · subst e
      right
      refine ⟨rfl, less_total x y (h2.resolve_left (fun h => h rfl)) (fun e => hne (by rw [e]))⟩
    · left
      have h1' := UInt8.not_lt.1 h1
      exact UInt8.lt_of_le_of_ne h1' (fun e2 => e e2.symm)
theorem bytes_ext {a b : ByteArray} (h : a.toList = b.toList) : a = b := by
  rw [ByteArray.toList_eq, ByteArray.toList_eq] at h
  cases a; cases b
  congr
  exact Array.toList_inj.1 h
theorem bytes_empty {a : ByteArray} (h : a.size = 0) : a = ByteArray.empty := by
  cases a with
  | mk d =>
    have : d = #[] := Array.eq_empty_of_size_eq_zero h
    rw [this]; rfl
theorem scmp_refl (a : ByteArray) : scmp a a = 0 := by simp [scmp, less_irrefl]
theorem scmp_zero {a b : ByteArray} (h : scmp a b = 0) : a = b := by
  unfold scmp at h; split at h
  · cases h
  · split at h
    · exact bytes_ext ‹_›
    · cases h
theorem scmp_neg {a b : ByteArray} : scmp a b < 0 ↔ Op.bytesLess a.toList b.toList = true := by
  unfold scmp; split
  · simp [*]
  · split <;> simp_all
theorem scmp_pos {a b : ByteArray} : 0 < scmp a b ↔ Op.bytesLess b.toList a.toList = true := by
  unfold scmp; split
  · rename_i h
    simp
    cases e : Op.bytesLess b.toList a.toList with
    | false => rfl
    | true => have := less_trans h e; rw [less_irrefl] at this; cases this
  · rename_i h
    split
    · rename_i h2; rw [h2]; simp [less_irrefl]
    · rename_i h2
      simp only [Int.zero_lt_one, true_iff]
      exact less_total _ _ (by simpa using h) h2
theorem orr_zero {a b : Int} (h : orr a b = 0) : a = 0 ∧ b = 0 := by
  unfold orr at h; split at h
  · exact ⟨‹_›, h⟩
  · exact absurd h ‹_›

mutual
theorem cmp_refl : ∀ v : V, cmp v v = 0
  | .mk k n t fs r l ps => by
    rw [cmp, if_pos rfl, ocmp_refl, scmp_refl, cmpF_refl fs, scmp_refl, cmpL_refl l, cmpP_refl ps]
    simp [orr]
theorem cmpF_refl : ∀ fs : List (Int × V), cmpF fs fs = 0
  | [] => by rw [cmpF]
  | (n, v) :: r => by rw [cmpF, ocmp_refl, cmp_refl v, cmpF_refl r]; simp [orr]
theorem cmpL_refl : ∀ fs : List V, cmpL fs fs = 0
  | [] => by rw [cmpL]
  | v :: r => by rw [cmpL, cmp_refl v, cmpL_refl r]; simp [orr]
theorem cmpP_refl : ∀ fs : List (V × V), cmpP fs fs = 0
  | [] => by rw [cmpP]
  | (n, v) :: r => by rw [cmpP, cmp_refl n, cmp_refl v, cmpP_refl r]; simp [orr]
end

theorem right_parts {k n : Int} {t : ByteArray} {fs : List (Int × V)} {r : ByteArray} {l : List V} {ps : List (V × V)} (h : right (.mk k n t fs r l ps) = true) :
    (k = 1 ∨ n = 0) ∧ (k = 2 ∨ t = ByteArray.empty) ∧ (k = 3 ∨ fs = []) ∧ (k = 3 ∨ r = ByteArray.empty) ∧ (k = 4 ∨ l = []) ∧ (k = 5 ∨ ps = []) ∧
    (k = 0 ∨ k = 1 ∨ k = 2 ∨ (k = 3 ∧ rightF 0 fs = true) ∨ (k = 4 ∧ 0 < l.length ∧ rightL l = true) ∨ (k = 5 ∧ 0 < ps.length ∧ rightP none ps = true)) := by
  rw [right, Bool.and_eq_true] at h
  obtain ⟨h1, h2⟩ := h
  unfold bareV at h1
  simp only [decide_eq_true_eq, List.length_eq_zero_iff] at h1
  obtain ⟨a1, a2, a3, a4, a5, a6⟩ := h1
  refine ⟨a1, a2.imp_right bytes_empty, a3, a4.imp_right bytes_empty, a5, a6, ?_⟩
  split at h2
  · rename_i h; rcases h with h | h | h
    · exact .inl h
    · exact .inr (.inl h)
    · exact .inr (.inr (.inl h))
  · split at h2
    · exact .inr (.inr (.inr (.inl ⟨‹_›, h2⟩)))
    · split at h2
      · simp only [Bool.and_eq_true, decide_eq_true_eq] at h2
        exact .inr (.inr (.inr (.inr (.inl ⟨‹_›, h2⟩))))
      · split at h2
        · simp only [Bool.and_eq_true, decide_eq_true_eq] at h2
          exact .inr (.inr (.inr (.inr (.inr ⟨‹_›, h2⟩))))
        · cases h2

mutual
theorem cmp_eq : ∀ (a b : V), right a = true → right b = true → cmp a b = 0 → a = b
  | .mk k n t fs r l ps, .mk k' n' t' fs' r' l' ps', ha, hb, h => by
    rw [cmp] at h
    split at h
    case isFalse hk => exact absurd (ocmp_zero h) hk
    case isTrue hk =>
    subst hk
    obtain ⟨a1, a2, a3, a4, a5, a6, a7⟩ := right_parts ha
    obtain ⟨b1, b2, b3, b4, b5, b6, b7⟩ := right_parts hb
    rcases a7 with rfl | rfl | rfl | ⟨rfl, a7⟩ | ⟨rfl, _, a7⟩ | ⟨rfl, _, a7⟩
    · simp at a1 a2 a3 a4 a5 a6 b1 b2 b3 b4 b5 b6; simp [*]
    · simp at a2 a3 a4 a5 a6 b2 b3 b4 b5 b6 h
      have := ocmp_zero h; simp [*]
    · simp at a1 a3 a4 a5 a6 b1 b3 b4 b5 b6 h
      have := scmp_zero h; simp [*]
    · simp at a1 a2 a5 a6 b1 b2 b5 b6 h
      obtain ⟨h1, h2⟩ := orr_zero h
      simp at b7
      have e1 := cmpF_eq fs fs' 0 0 a7 b7 h1
      have e2 := scmp_zero h2
      simp [*]
    · simp at a1 a2 a3 a4 a6 b1 b2 b3 b4 b6 h
      simp at b7
      have e1 := cmpL_eq l l' a7 b7.2 h
      simp [*]
    · simp at a1 a2 a3 a4 a5 b1 b2 b3 b4 b5 h
      simp at b7
      have e1 := cmpP_eq ps ps' none none a7 b7.2 h
      simp [*]
theorem cmpF_eq : ∀ (a b : List (Int × V)) (i j : Int), rightF i a = true → rightF j b = true → cmpF a b = 0 → a = b
  | [], [], _, _, _, _, _ => rfl
  | [], _ :: _, _, _, _, _, h => by rw [cmpF] at h; cases h
  | _ :: _, [], _, _, _, _, h => by rw [cmpF] at h; cases h
  | (n, v) :: r, (n', v') :: r', i, j, ha, hb, h => by
    rw [cmpF] at h
    rw [rightF] at ha hb
    simp only [Bool.and_eq_true] at ha hb
    obtain ⟨h1, h2⟩ := orr_zero h
    obtain ⟨h1, h3⟩ := orr_zero h1
    rw [ocmp_zero h1, cmp_eq v v' ha.1.2 hb.1.2 h3, cmpF_eq r r' _ _ ha.2 hb.2 h2]
theorem cmpL_eq : ∀ (a b : List V), rightL a = true → rightL b = true → cmpL a b = 0 → a = b
  | [], [], _, _, _ => rfl
  | [], _ :: _, _, _, h => by rw [cmpL] at h; cases h
  | _ :: _, [], _, _, h => by rw [cmpL] at h; cases h
  | v :: r, v' :: r', ha, hb, h => by
    rw [cmpL] at h
    rw [rightL] at ha hb
    simp only [Bool.and_eq_true] at ha hb
    obtain ⟨h1, h2⟩ := orr_zero h
    rw [cmp_eq v v' ha.1.2 hb.1.2 h1, cmpL_eq r r' ha.2 hb.2 h2]
theorem cmpP_eq : ∀ (a b : List (V × V)) (i j : Option V), rightP i a = true → rightP j b = true → cmpP a b = 0 → a = b
  | [], [], _, _, _, _, _ => rfl
  | [], _ :: _, _, _, _, _, h => by rw [cmpP] at h; cases h
  | _ :: _, [], _, _, _, _, h => by rw [cmpP] at h; cases h
  | (n, v) :: r, (n', v') :: r', i, j, ha, hb, h => by
    rw [cmpP] at h
    rw [rightP.eq_def] at ha hb
    simp only [Bool.and_eq_true] at ha hb
    obtain ⟨h1, h2⟩ := orr_zero h
    obtain ⟨h1, h3⟩ := orr_zero h1
    rw [cmp_eq n n' ha.1.1.1.2 hb.1.1.1.2 h1, cmp_eq v v' ha.1.1.2.2 hb.1.1.2.2 h3, cmpP_eq r r' _ _ ha.2 hb.2 h2]
end

theorem cmp_iff {a b : V} (ha : right a = true) (hb : right b = true) : cmp a b = 0 ↔ a = b := ⟨cmp_eq a b ha hb, fun e => e ▸ cmp_refl a⟩

/-- keys: numbers and texts -/
def keyV (v : V) : Prop := v.kind = 1 ∨ v.kind = 2
theorem cmp_kinds {a b : V} (h : a.kind ≠ b.kind) : cmp a b = ocmp a.kind b.kind := by
  cases a; cases b; simp only [V.kind] at h ⊢; rw [cmp, if_neg h]
theorem cmp_num {a b : V} (h : a.kind = 1) (h2 : b.kind = 1) : cmp a b = ocmp a.num b.num := by
  cases a; cases b; simp only [V.kind] at h h2; subst h; subst h2; rw [cmp, if_pos rfl, if_pos rfl]; rfl
theorem cmp_text {a b : V} (h : a.kind = 2) (h2 : b.kind = 2) : cmp a b = scmp a.text b.text := by
  cases a; cases b; simp only [V.kind] at h h2; subst h; subst h2; rw [cmp, if_pos rfl]; simp [V.text]
theorem key_trans {a b c : V} (ha : keyV a) (hb : keyV b) (hc : keyV c) (h1 : cmp a b < 0) (h2 : cmp b c < 0) : cmp a c < 0 := by
  by_cases e1 : a.kind = b.kind
  · by_cases e2 : b.kind = c.kind
    · rcases ha with ha | ha
      · rw [cmp_num ha (e1 ▸ ha), ocmp_neg] at h1
        rw [cmp_num (e1 ▸ ha) (e2 ▸ e1 ▸ ha), ocmp_neg] at h2
        rw [cmp_num ha (e2 ▸ e1 ▸ ha), ocmp_neg]; omega
      · rw [cmp_text ha (e1 ▸ ha), scmp_neg] at h1
        rw [cmp_text (e1 ▸ ha) (e2 ▸ e1 ▸ ha), scmp_neg] at h2
        rw [cmp_text ha (e2 ▸ e1 ▸ ha), scmp_neg]; exact less_trans h1 h2
    · rw [cmp_kinds e2, ocmp_neg] at h2
      rw [cmp_kinds (by rw [e1]; exact e2), ocmp_neg]; omega
  · rw [cmp_kinds e1, ocmp_neg] at h1
    by_cases e2 : b.kind = c.kind
    · rw [cmp_kinds (by rw [← e2]; exact e1), ocmp_neg]; omega
    · rw [cmp_kinds e2, ocmp_neg] at h2
      have : a.kind ≠ c.kind := by omega
      rw [cmp_kinds this, ocmp_neg]; omega
theorem key_anti {a b : V} (ha : keyV a) (hb : keyV b) : cmp a b < 0 ↔ 0 < cmp b a := by
  by_cases e : a.kind = b.kind
  · rcases ha with ha | ha
    · rw [cmp_num ha (e ▸ ha), cmp_num (e ▸ ha) ha, ocmp_neg, ocmp_pos]
    · rw [cmp_text ha (e ▸ ha), cmp_text (e ▸ ha) ha, scmp_neg, scmp_pos]
  · rw [cmp_kinds e, cmp_kinds (fun h => e h.symm), ocmp_neg, ocmp_pos]

end Go.Proofs.YtkldcjlkeblggaaDoor.Val

/- Plain facts: rows in order, looked up and put, whatever the order. -/
namespace Go.Proofs.YtkldcjlkeblggaaDoor.Val
set_option linter.unusedVariables false
set_option linter.unusedSectionVars false

section
variable {κ : Type} (c : κ → κ → Int) (K : κ → Prop)

def gpos (d : κ) (l : List (κ × V)) (n : κ) : Nat := firstGe (fun i => c (l.getD i (d, v0)).1 n) l.length
def ghit (d : κ) (l : List (κ × V)) (n : κ) : Bool := decide (gpos c d l n < l.length) && decide (c (l.getD (gpos c d l n) (d, v0)).1 n = 0)
def look : List (κ × V) → κ → Option V
  | [], _ => none
  | (m, y) :: r, n => if c m n < 0 then look r n else if c m n = 0 then some y else none
def ins : List (κ × V) → κ → V → List (κ × V)
  | [], n, x => if x.kind ≠ 0 then [(n, x)] else []
  | (m, y) :: r, n, x => if c m n < 0 then (m, y) :: ins r n x else if c m n = 0 then (if x.kind ≠ 0 then (n, x) :: r else r) else (if x.kind ≠ 0 then (n, x) :: (m, y) :: r else (m, y) :: r)

theorem gpos_cons (d m n : κ) (y : V) (r : List (κ × V)) : gpos c d ((m, y) :: r) n = if c m n < 0 then gpos c d r n + 1 else 0 := by
  unfold gpos
  rw [List.length_cons, firstGe.eq_def]
  simp
theorem ghit_cons (d m n : κ) (y : V) (r : List (κ × V)) : ghit c d ((m, y) :: r) n = if c m n < 0 then ghit c d r n else decide (c m n = 0) := by
  unfold ghit
  rw [gpos_cons]
  by_cases h : c m n < 0
  · simp [h]
  · simp [h]
theorem look_eq (d : κ) : ∀ (l : List (κ × V)) (n : κ), (if ghit c d l n = true then some (l.getD (gpos c d l n) (d, v0)).2 else none) = look c l n
  | [], n => by simp [ghit, gpos, firstGe, look]
  | (m, y) :: r, n => by
    have ih := look_eq d r n
    rw [look, ghit_cons, gpos_cons]
    by_cases h : c m n < 0
    · simp only [h, if_true]; rw [← ih]; simp
    · simp only [h, if_false]; by_cases h2 : c m n = 0 <;> simp [h2]
theorem ins_eq (d : κ) : ∀ (l : List (κ × V)) (n : κ) (x : V), spl l (gpos c d l n) (one (ghit c d l n)) (decide (x.kind ≠ 0)) (n, x) = ins c l n x
  | [], n, x => by simp [gpos, ghit, firstGe, spl, one, ins]
  | (m, y) :: r, n, x => by
    have ih := ins_eq d r n x
    rw [ins, ghit_cons, gpos_cons]
    by_cases h : c m n < 0
    · simp only [h, if_true]
      rw [← ih]
      unfold spl
      rw [List.take_succ_cons, List.cons_append, show gpos c d r n + 1 + one (ghit c d r n) = (gpos c d r n + one (ghit c d r n)) + 1 by omega, List.drop_succ_cons]
    · simp only [h, if_false]
      by_cases h2 : c m n = 0
      · by_cases h3 : x.kind = 0 <;> simp [spl, one, h2, h3]
      · by_cases h3 : x.kind = 0 <;> simp [spl, one, h2, h3]

/-- what is asked of an order -/
structure Ord : Prop where
  trans : ∀ {a b d}, K a → K b → K d → c a b < 0 → c b d < 0 → c a d < 0
  anti : ∀ {a b}, K a → K b → (c a b < 0 ↔ 0 < c b a)
  zero : ∀ {a b}, K a → K b → (c a b = 0 ↔ a = b)
def Srt (l : List (κ × V)) : Prop := (∀ e ∈ l, K e.1) ∧ l.Pairwise (fun a b => c a.1 b.1 < 0)
variable {c K} (O : Ord c K)
include O

theorem Ord.self {a : κ} (ha : K a) : c a a = 0 := (O.zero ha ha).2 rfl
theorem Srt.tail {e : κ × V} {r : List (κ × V)} (h : Srt c K (e :: r)) : Srt c K r := ⟨fun x hx => h.1 x (by simp [hx]), (List.pairwise_cons.1 h.2).2⟩
/-- what stands ahead of a row's keys isn't found in it -/
theorem look_ahead : ∀ {l : List (κ × V)} {n : κ}, Srt c K l → K n → (∀ e ∈ l, c n e.1 < 0) → look c l n = none
  | [], _, _, _, _ => rfl
  | (m, y) :: r, n, hs, hn, h => by
    have h1 : c n m < 0 := h (m, y) (by simp)
    have hm : K m := hs.1 (m, y) (by simp)
    have h2 := (O.anti hn hm).1 h1
    rw [look, if_neg (by omega), if_neg (by omega)]
theorem look_ins_same : ∀ {l : List (κ × V)} {n : κ} (x : V), Srt c K l → K n → look c (ins c l n x) n = if x.kind ≠ 0 then some x else none
  | [], n, x, hs, hn => by
    rw [ins]
    by_cases h : x.kind = 0
    · simp [h, look]
    · simp [h, look, O.self hn]
  | (m, y) :: r, n, x, hs, hn => by
    have hm : K m := hs.1 (m, y) (by simp)
    have ih := look_ins_same x (Srt.tail O hs) hn
    rw [ins]
    by_cases h1 : c m n < 0
    · rw [if_pos h1, look, if_pos h1, ih]
    · rw [if_neg h1]
      by_cases h2 : c m n = 0
      · rw [if_pos h2]
        by_cases h : x.kind = 0
        · simp only [h, ne_eq, not_true, if_false]
          have e := (O.zero hm hn).1 h2
          subst e
          exact look_ahead O (Srt.tail O hs) hn (fun e he => (List.pairwise_cons.1 hs.2).1 e he)
        · simp [h, look, O.self hn]
      · rw [if_neg h2]
        by_cases h : x.kind = 0
        · simp [h, look, h1, h2]
        · simp [h, look, O.self hn]
theorem look_ins_ne : ∀ {l : List (κ × V)} {n m : κ} (x : V), Srt c K l → K n → K m → m ≠ n → look c (ins c l n x) m = look c l m
  | [], n, m, x, hs, hn, hm, hne => by
    rw [ins]
    by_cases h : x.kind = 0
    · simp [h]
    · have h2 : ¬ c n m = 0 := fun e => hne ((O.zero hn hm).1 e).symm
      simp [h, look, h2]
  | (a, y) :: r, n, m, x, hs, hn, hm, hne => by
    have ha : K a := hs.1 (a, y) (by simp)
    have ih := look_ins_ne x (Srt.tail O hs) hn hm hne
    have h2 : ¬ c n m = 0 := fun e => hne ((O.zero hn hm).1 e).symm
    rw [ins]
    by_cases h1 : c a n < 0
    · rw [if_pos h1, look, ih, look]
    · rw [if_neg h1]
      by_cases h3 : c a n = 0
      · have e := (O.zero ha hn).1 h3
        subst e
        rw [if_pos h3]
        have hah : c a m < 0 ∨ ¬ c a m < 0 := Classical.em _
        by_cases h : x.kind = 0
        · simp only [h, ne_eq, not_true, if_false]
          rw [look]
          by_cases h4 : c a m < 0
          · rw [if_pos h4]
          · rw [if_neg h4, if_neg h2]
            have h5 : c m a < 0 := (O.anti hm ha).2 (by omega)
            exact look_ahead O (Srt.tail O hs) hm (fun e he => O.trans hm ha (hs.1 e (by simp [he])) h5 ((List.pairwise_cons.1 hs.2).1 e he))
        · simp only [h, ne_eq, not_false_eq_true, if_true]
          rw [look, look]
          simp [h2]
      · rw [if_neg h3]
        have hna : c n a < 0 := (O.anti hn ha).2 (by omega)
        by_cases h : x.kind = 0
        · simp [h]
        · simp only [h, ne_eq, not_false_eq_true, if_true]
          rw [look]
          by_cases h4 : c n m < 0
          · rw [if_pos h4]
          · rw [if_neg h4, if_neg h2]
            have h5 : c m n < 0 := (O.anti hm hn).2 (by omega)
            refine (look_ahead O hs hm (fun e he => ?_)).symm
            have hma := O.trans hm hn ha h5 hna
            rcases List.mem_cons.1 he with rfl | he2
            · exact hma
            · exact O.trans hm ha (hs.1 e he) hma ((List.pairwise_cons.1 hs.2).1 e he2)
theorem mem_ins : ∀ {l : List (κ × V)} {n : κ} {x : V} {e : κ × V}, e ∈ ins c l n x → e ∈ l ∨ (e = (n, x) ∧ x.kind ≠ 0)
  | [], n, x, e, h => by
    rw [ins] at h
    split at h
    · rename_i hk; exact .inr ⟨by simpa using h, hk⟩
    · simp at h
  | (a, y) :: r, n, x, e, h => by
    rw [ins] at h
    split at h
    · rcases List.mem_cons.1 h with rfl | h
      · exact .inl (by simp)
      · rcases mem_ins h with h | h
        · exact .inl (by simp [h])
        · exact .inr h
    · split at h
      · split at h
        · rename_i hk
          rcases List.mem_cons.1 h with rfl | h
          · exact .inr ⟨rfl, hk⟩
          · exact .inl (by simp [h])
        · exact .inl (by simp [h])
      · split at h
        · rename_i hk
          rcases List.mem_cons.1 h with rfl | h
          · exact .inr ⟨rfl, hk⟩
          · exact .inl h
        · exact .inl h
theorem srt_ins : ∀ {l : List (κ × V)} {n : κ} (x : V), Srt c K l → K n → Srt c K (ins c l n x)
  | [], n, x, hs, hn => by
    rw [ins]
    split
    · exact ⟨fun e he => by obtain rfl : e = (n, x) := by simpa using he
                            exact hn, by simp⟩
    · exact hs
  | (a, y) :: r, n, x, hs, hn => by
    have ha : K a := hs.1 (a, y) (by simp)
    have ih := srt_ins x (Srt.tail O hs) hn
    have hp := List.pairwise_cons.1 hs.2
    rw [ins]
    split
    · rename_i h1
      refine ⟨fun e he => ?_, List.pairwise_cons.2 ⟨fun e he => ?_, ih.2⟩⟩
      · rcases List.mem_cons.1 he with rfl | he
        · exact ha
        · exact ih.1 e he
      · rcases mem_ins O he with he | ⟨rfl, _⟩
        · exact hp.1 e he
        · exact h1
    · rename_i h1
      split
      · rename_i h2
        have e := (O.zero ha hn).1 h2
        subst e
        split
        · exact ⟨fun e he => by rcases List.mem_cons.1 he with rfl | he
                                · exact ha
                                · exact hs.1 e (by simp [he]), List.pairwise_cons.2 ⟨hp.1, hp.2⟩⟩
        · exact Srt.tail O hs
      · rename_i h2
        have hna : c n a < 0 := (O.anti hn ha).2 (by omega)
        split
        · refine ⟨fun e he => ?_, List.pairwise_cons.2 ⟨fun e he => ?_, hs.2⟩⟩
          · rcases List.mem_cons.1 he with rfl | he
            · exact hn
            · exact hs.1 e he
          · rcases List.mem_cons.1 he with rfl | he2
            · exact hna
            · exact O.trans hn ha (hs.1 e he) hna (hp.1 e he2)
        · exact hs
theorem look_mem : ∀ {l : List (κ × V)} {n : κ} {y : V}, Srt c K l → K n → look c l n = some y → (n, y) ∈ l
  | [], _, _, _, _, h => by cases h
  | (a, z) :: r, n, y, hs, hn, h => by
    rw [look] at h
    split at h
    · exact List.mem_cons_of_mem _ (look_mem (Srt.tail O hs) hn h)
    · split at h
      · rename_i h2
        have e := (O.zero (hs.1 (a, z) (by simp)) hn).1 h2
        subst e
        cases h; simp
      · cases h
theorem mem_look : ∀ {l : List (κ × V)} {n : κ} {y : V}, Srt c K l → (n, y) ∈ l → look c l n = some y
  | (a, z) :: r, n, y, hs, h => by
    have hn : K n := hs.1 _ h
    rw [look]
    rcases List.mem_cons.1 h with h | h
    · cases h
      rw [if_neg (by rw [O.self hn]; omega), if_pos (O.self hn)]
    · rw [if_pos ((List.pairwise_cons.1 hs.2).1 _ h)]
      exact mem_look (Srt.tail O hs) h
theorem srt_ext : ∀ {l l' : List (κ × V)}, Srt c K l → Srt c K l' → (∀ n, K n → look c l n = look c l' n) → l = l'
  | [], [], _, _, _ => rfl
  | [], (n, y) :: r, _, hs, h => by
    have hn : K n := hs.1 (n, y) (by simp)
    have := h n hn
    rw [look, mem_look O hs (List.mem_cons_self ..)] at this; cases this
  | (n, y) :: r, [], hs, _, h => by
    have hn : K n := hs.1 (n, y) (by simp)
    have := h n hn
    rw [mem_look O hs (List.mem_cons_self ..), look] at this; cases this
  | (n, y) :: r, (m, z) :: q, hs, ht, h => by
    have hn : K n := hs.1 (n, y) (by simp)
    have hm : K m := ht.1 (m, z) (by simp)
    have ps := List.pairwise_cons.1 hs.2
    have pt := List.pairwise_cons.1 ht.2
    have e1 := h n hn
    rw [mem_look O hs (List.mem_cons_self ..)] at e1
    have m1 := look_mem O ht hn e1.symm
    have e2 := h m hm
    rw [mem_look O ht (List.mem_cons_self ..)] at e2
    have m2 := look_mem O hs hm e2
    have hnm : n = m := by
      rcases List.mem_cons.1 m1 with h1 | h1
      · cases h1; rfl
      · rcases List.mem_cons.1 m2 with h2 | h2
        · cases h2; rfl
        · have q1 := ps.1 _ h2
          have q2 := pt.1 _ h1
          have q3 := (O.anti hn hm).1 q1
          have q4 : c m n < 0 := q2
          omega
    subst hnm
    have hyz : y = z := by
      rw [mem_look O ht (List.mem_cons_self ..)] at e1; cases e1; rfl
    subst hyz
    rw [srt_ext (Srt.tail O hs) (Srt.tail O ht) (fun k hk => ?_)]
    have := h k hk
    rw [look, look] at this
    by_cases h1 : c n k < 0
    · simpa [h1] using this
    · have hr : ∀ {l : List (κ × V)}, Srt c K ((n, y) :: l) → look c l k = none := fun {l} hl => by
        refine look_ahead O (Srt.tail O hl) hk (fun e he => ?_)
        have pe := (List.pairwise_cons.1 hl.2).1 e he
        have ke := hl.1 e (by simp [he])
        by_cases h2 : c k n < 0
        · exact O.trans hk hn ke h2 pe
        · have : k = n := (O.zero hk hn).1 (by
            have := mt (O.anti hn hk).2 h1
            omega)
          rw [this]; exact pe
      rw [hr hs, hr ht]
theorem srt_mono (d : κ) {l : List (κ × V)} {n : κ} (hs : Srt c K l) (hn : K n) : MonoN (fun i => c (l.getD i (d, v0)).1 n) l.length := by
  intro i j hij hj h
  simp only [List.getD_eq_getElem?_getD, List.getElem?_eq_getElem hj, List.getElem?_eq_getElem (show i < l.length by omega), Option.getD_some] at h ⊢
  by_cases e : i = j
  · subst e; exact h
  · exact O.trans (hs.1 _ (List.getElem_mem _)) (hs.1 _ (List.getElem_mem _)) hn (List.pairwise_iff_getElem.1 hs.2 i j (by omega) hj (by omega)) h
end

end Go.Proofs.YtkldcjlkeblggaaDoor.Val

/- Plain facts: right messages and maps, by what is got of them. -/
namespace Go.Proofs.YtkldcjlkeblggaaDoor.Val
set_option linter.unusedVariables false

def KI (n : Int) : Prop := 1 ≤ n ∧ n ≤ 536870911
def KP (kd : Int) (v : V) : Prop := v.kind = kd ∧ (kd = 1 ∨ kd = 2) ∧ right v = true
theorem KP.key {kd : Int} {v : V} (h : KP kd v) : keyV v := by
  obtain ⟨h1, h2, _⟩ := h; unfold keyV; rw [h1]; exact h2
theorem ordI : Ord ocmp KI where
  trans _ _ _ h1 h2 := by rw [ocmp_neg] at *; omega
  anti _ _ := by rw [ocmp_neg, ocmp_pos]
  zero _ _ := ⟨ocmp_zero, fun e => e ▸ ocmp_refl _⟩
theorem ordP (kd : Int) : Ord cmp (KP kd) where
  trans h1 h2 h3 := key_trans h1.key h2.key h3.key
  anti h1 h2 := key_anti h1.key h2.key
  zero h1 h2 := cmp_iff h1.2.2 h2.2.2

def okF (e : Int × V) : Prop := e.2.kind ≠ 0 ∧ right e.2 = true
theorem rightF_iff : ∀ (fs : List (Int × V)) (last : Int), 0 ≤ last → (rightF last fs = true ↔ Srt ocmp KI fs ∧ ∀ e ∈ fs, last < e.1 ∧ okF e)
  | [], last, _ => by rw [rightF]; exact ⟨fun _ => ⟨⟨by simp, by simp⟩, by simp⟩, fun _ => rfl⟩
  | (n, v) :: r, last, h0 => by
    rw [rightF]
    simp only [Bool.and_eq_true, decide_eq_true_eq]
    constructor
    · rintro ⟨⟨⟨h1, h2, h3⟩, h4⟩, h5⟩
      obtain ⟨hs, ho⟩ := (rightF_iff r n (by omega)).1 h5
      refine ⟨⟨fun e he => ?_, List.pairwise_cons.2 ⟨fun e he => ocmp_neg.2 (ho e he).1, hs.2⟩⟩, fun e he => ?_⟩
      · rcases List.mem_cons.1 he with rfl | he
        · exact ⟨by show 1 ≤ n; omega, h2⟩
        · exact hs.1 e he
      · rcases List.mem_cons.1 he with rfl | he
        · exact ⟨h1, h3, h4⟩
        · have := ho e he; exact ⟨by omega, this.2⟩
    · rintro ⟨hs, ho⟩
      have h1 := ho (n, v) (by simp)
      have h2 := hs.1 (n, v) (by simp)
      refine ⟨⟨⟨h1.1, h2.2, h1.2.1⟩, h1.2.2⟩, (rightF_iff r n (by have := h2.1; show 0 ≤ n; have : 1 ≤ n := h2.1; omega)).2 ⟨Srt.tail ordI hs, fun e he => ⟨ocmp_neg.1 ((List.pairwise_cons.1 hs.2).1 e he), (ho e (by simp [he])).2⟩⟩⟩
def okP (e : V × V) : Prop := partB e.2 = true
theorem rightP_some : ∀ (ps : List (V × V)) (p : V), (KP p.kind p) → (rightP (some p) ps = true ↔ Srt cmp (KP p.kind) ps ∧ ∀ e ∈ ps, cmp p e.1 < 0 ∧ okP e)
  | [], p, _ => by rw [rightP]; exact ⟨fun _ => ⟨⟨by simp, by simp⟩, by simp⟩, fun _ => rfl⟩
  | (k, v) :: r, p, hp => by
    rw [rightP.eq_def]
    simp only [Bool.and_eq_true, decide_eq_true_eq]
    constructor
    · rintro ⟨⟨⟨⟨h1, h2⟩, h3, h4⟩, h5, h6⟩, h7⟩
      have hk : KP k.kind k := ⟨rfl, h1, h2⟩
      obtain ⟨hs, ho⟩ := (rightP_some r k hk).1 h7
      rw [← h5] at hs hk
      refine ⟨⟨fun e he => ?_, List.pairwise_cons.2 ⟨fun e he => (ho e he).1, hs.2⟩⟩, fun e he => ?_⟩
      · rcases List.mem_cons.1 he with rfl | he
        · exact hk
        · exact hs.1 e he
      · rcases List.mem_cons.1 he with rfl | he
        · exact ⟨h6, by unfold okP partB; simp [h3, h4]⟩
        · have := ho e he; exact ⟨(ordP p.kind).trans hp hk (hs.1 e he) h6 this.1, this.2⟩
    · rintro ⟨hs, ho⟩
      have h1 := ho (k, v) (by simp)
      have h2 : KP p.kind k := hs.1 (k, v) (by simp)
      have h3 := h1.2
      unfold okP partB at h3
      simp only [Bool.and_eq_true, decide_eq_true_eq] at h3
      have hk : KP k.kind k := ⟨rfl, h2.1 ▸ h2.2.1, h2.2.2⟩
      refine ⟨⟨⟨⟨hk.2.1, hk.2.2⟩, h3.1, h3.2⟩, h2.1.symm, h1.1⟩, (rightP_some r k hk).2 ⟨by rw [h2.1]; exact Srt.tail (ordP _) hs, fun e he => ⟨(List.pairwise_cons.1 hs.2).1 e he, (ho e (by simp [he])).2⟩⟩⟩
theorem rightP_none {ps : List (V × V)} (h : rightP none ps = true) : ps = [] ∨ ∃ kd, (∃ e, ps.head? = some e ∧ e.1.kind = kd) ∧ Srt cmp (KP kd) ps ∧ ∀ e ∈ ps, okP e := by
  cases ps with
  | nil => exact .inl rfl
  | cons e r =>
    obtain ⟨k, v⟩ := e
    right
    rw [rightP.eq_def] at h
    simp only [Bool.and_eq_true, decide_eq_true_eq] at h
    obtain ⟨⟨⟨⟨h1, h2⟩, h3, h4⟩, _⟩, h7⟩ := h
    have hk : KP k.kind k := ⟨rfl, h1, h2⟩
    obtain ⟨hs, ho⟩ := (rightP_some r k hk).1 h7
    refine ⟨k.kind, ⟨(k, v), rfl, rfl⟩, ⟨fun e he => ?_, List.pairwise_cons.2 ⟨fun e he => (ho e he).1, hs.2⟩⟩, fun e he => ?_⟩
    · rcases List.mem_cons.1 he with rfl | he
      · exact hk
      · exact hs.1 e he
    · rcases List.mem_cons.1 he with rfl | he
      · unfold okP partB; simp [h3, h4]
      · exact (ho e he).2
theorem rightP_of {ps : List (V × V)} {kd : Int} (hs : Srt cmp (KP kd) ps) (ho : ∀ e ∈ ps, okP e) : rightP none ps = true := by
  cases ps with
  | nil => rw [rightP]
  | cons e r =>
    obtain ⟨k, v⟩ := e
    have h2 : KP kd k := hs.1 (k, v) (by simp)
    have h3 := ho (k, v) (by simp)
    unfold okP partB at h3
    simp only [Bool.and_eq_true, decide_eq_true_eq] at h3
    have hk : KP k.kind k := ⟨rfl, h2.1 ▸ h2.2.1, h2.2.2⟩
    rw [rightP.eq_def]
    simp only [Bool.and_eq_true, decide_eq_true_eq]
    exact ⟨⟨⟨⟨hk.2.1, hk.2.2⟩, h3.1, h3.2⟩, trivial⟩, (rightP_some r k hk).2 ⟨by rw [h2.1]; exact Srt.tail (ordP _) hs, fun e he => ⟨(List.pairwise_cons.1 hs.2).1 e he, ho e (by simp [he])⟩⟩⟩

/-- a right message, by its parts -/
def mkM (fs : List (Int × V)) (r : ByteArray) : V := .mk 3 0 ByteArray.empty fs r [] []
def mkL (l : List V) : V := if l.length = 0 then v0 else .mk 4 0 ByteArray.empty [] ByteArray.empty l []
def mkP (ps : List (V × V)) : V := if ps.length = 0 then v0 else .mk 5 0 ByteArray.empty [] ByteArray.empty [] ps
theorem right_msg {v : V} (h : right v = true) (hk : v.kind = 3) : v = mkM v.fields v.rest ∧ rightF 0 v.fields = true := by
  obtain ⟨k, n, t, fs, r, l, ps⟩ := v
  simp only [V.kind] at hk; subst hk
  obtain ⟨a1, a2, a3, a4, a5, a6, a7⟩ := right_parts h
  simp at a1 a2 a5 a6 a7
  refine ⟨?_, a7⟩
  simp [mkM, V.fields, V.rest, *]
theorem right_mkM {fs : List (Int × V)} {r : ByteArray} : right (mkM fs r) = rightF 0 fs := by
  unfold mkM
  rw [right]; simp [bareV]
theorem right_v0 : right v0 = true := by unfold v0; rw [right]; simp [bareV]
theorem right_none {v : V} (h : right v = true) (hk : v.kind = 0) : v = v0 := by
  obtain ⟨k, n, t, fs, r, l, ps⟩ := v
  simp only [V.kind] at hk; subst hk
  obtain ⟨a1, a2, a3, a4, a5, a6, a7⟩ := right_parts h
  simp at a1 a2 a3 a4 a5 a6
  simp [v0, *]
theorem right_list {v : V} (h : right v = true) (hk : v.kind = 4 ∨ v.kind = 0) : v = mkL v.list ∧ rightL v.list = true := by
  rcases hk with hk | hk
  · obtain ⟨k, n, t, fs, r, l, ps⟩ := v
    simp only [V.kind] at hk; subst hk
    obtain ⟨a1, a2, a3, a4, a5, a6, a7⟩ := right_parts h
    simp at a1 a2 a3 a4 a6 a7
    refine ⟨?_, a7.2⟩
    have : l.length ≠ 0 := by have := a7.1; omega
    simp [mkL, V.list, *]
  · rw [right_none h hk]; exact ⟨by simp [mkL, V.list, v0], by simp [v0, V.list, rightL]⟩
theorem right_mkL {l : List V} (h : rightL l = true) : right (mkL l) = true := by
  unfold mkL
  split
  · exact right_v0
  · rw [right]; simp [bareV, h]; omega
theorem right_map {v : V} (h : right v = true) (hk : v.kind = 5 ∨ v.kind = 0) : v = mkP v.pairs ∧ rightP none v.pairs = true := by
  rcases hk with hk | hk
  · obtain ⟨k, n, t, fs, r, l, ps⟩ := v
    simp only [V.kind] at hk; subst hk
    obtain ⟨a1, a2, a3, a4, a5, a6, a7⟩ := right_parts h
    simp at a1 a2 a3 a4 a5 a7
    refine ⟨?_, a7.2⟩
    have : ps.length ≠ 0 := by have := a7.1; omega
    simp [mkP, V.pairs, *]
  · rw [right_none h hk]; exact ⟨by simp [mkP, V.pairs, v0], by simp [v0, V.pairs, rightP]⟩
theorem right_mkP {ps : List (V × V)} (h : rightP none ps = true) : right (mkP ps) = true := by
  unfold mkP
  split
  · exact right_v0
  · rw [right]; simp [bareV, h]; omega
theorem mkL_list (l : List V) : (mkL l).list = l := by
  unfold mkL; split
  · rename_i h; simp [v0, V.list, List.eq_nil_of_length_eq_zero h]
  · rfl
theorem mkP_pairs (l : List (V × V)) : (mkP l).pairs = l := by
  unfold mkP; split
  · rename_i h; simp [v0, V.pairs, List.eq_nil_of_length_eq_zero h]
  · rfl
theorem mkP_kind (l : List (V × V)) : (mkP l).kind = 5 ∨ (mkP l).kind = 0 := by
  unfold mkP; split
  · right; rfl
  · left; rfl

/-- what is got of messages, put into them -/
theorem get_look {v : V} (n : Int) (hk : v.kind = 3) : get v n = (look ocmp v.fields n).getD v0 := by
  rw [← look_eq ocmp 0]
  unfold get
  have e : hitF v.fields n = ghit ocmp 0 v.fields n := rfl
  have e2 : posF v.fields n = gpos ocmp 0 v.fields n := rfl
  rw [e, e2]
  by_cases h : ghit ocmp 0 v.fields n = true <;> simp [h, hk]
theorem with_ins {v : V} {n : Int} (x : V) (hr : right v = true) (hk : v.kind = 3) (hn : KI n) : withV v n x = mkM (ins ocmp v.fields n x) v.rest := by
  have e := (right_msg hr hk).1
  unfold withV
  rw [if_pos ⟨hk, hn⟩, ← ins_eq ocmp 0]
  conv => lhs; rw [e]
  rfl
theorem srt_fields {v : V} (hr : right v = true) (hk : v.kind = 3) : Srt ocmp KI v.fields ∧ ∀ e ∈ v.fields, okF e := by
  obtain ⟨h1, h2⟩ := (rightF_iff v.fields 0 (Int.le_refl _)).1 (right_msg hr hk).2
  exact ⟨h1, fun e he => (h2 e he).2⟩
theorem right_with {v x : V} {n : Int} (hr : right v = true) (hk : v.kind = 3) (hn : KI n) (hx : right x = true) : right (withV v n x) = true := by
  rw [with_ins x hr hk hn, right_mkM]
  obtain ⟨h1, h2⟩ := srt_fields hr hk
  refine (rightF_iff _ 0 (Int.le_refl _)).2 ⟨srt_ins ordI x h1 hn, fun e he => ?_⟩
  rcases mem_ins ordI he with he | ⟨rfl, hx0⟩
  · have := (h1.1 e he).1; exact ⟨by omega, h2 e he⟩
  · have := hn.1; exact ⟨by show 0 < n; omega, hx0, hx⟩
theorem right_get {v : V} {n : Int} (hr : right v = true) (hk : v.kind = 3) (hn : KI n) : right (get v n) = true := by
  rw [get_look n hk]
  obtain ⟨h1, h2⟩ := srt_fields hr hk
  cases h : look ocmp v.fields n with
  | none => exact right_v0
  | some y => exact (h2 _ (look_mem ordI h1 hn h)).2
theorem opt_v0 {x : V} (hx : right x = true) : ((if x.kind ≠ 0 then some x else none : Option V)).getD v0 = x := by
  by_cases h : x.kind = 0
  · simp [h]; exact (right_none hx h).symm
  · simp [h]
theorem kind_with {v x : V} {n : Int} (hk : v.kind = 3) : (withV v n x).kind = 3 := by
  unfold withV
  split
  · exact hk
  · exact hk
theorem rest_with {v x : V} {n : Int} : (withV v n x).rest = v.rest := by
  unfold withV
  split <;> rfl
theorem get_with {v x : V} {n : Int} (hr : right v = true) (hk : v.kind = 3) (hn : KI n) (hx : right x = true) : get (withV v n x) n = x := by
  rw [get_look n (kind_with hk), with_ins x hr hk hn]
  show (look ocmp (ins ocmp v.fields n x) n).getD v0 = x
  rw [look_ins_same ordI x (srt_fields hr hk).1 hn]
  exact opt_v0 hx
theorem get_with_ne {v x : V} {n m : Int} (hr : right v = true) (hk : v.kind = 3) (hn : KI n) (hm : KI m) (hne : m ≠ n) : get (withV v n x) m = get v m := by
  rw [get_look m (kind_with hk), with_ins x hr hk hn, get_look m hk]
  show (look ocmp (ins ocmp v.fields n x) m).getD v0 = _
  rw [look_ins_ne ordI x (srt_fields hr hk).1 hn hm hne]
theorem msg_ext {v w : V} (hv : right v = true) (hw : right w = true) (kv : v.kind = 3) (kw : w.kind = 3) (hr : v.rest = w.rest) (h : ∀ n, KI n → get v n = get w n) : v = w := by
  rw [(right_msg hv kv).1, (right_msg hw kw).1, hr]
  obtain ⟨v1, v2⟩ := srt_fields hv kv
  obtain ⟨w1, w2⟩ := srt_fields hw kw
  rw [srt_ext ordI v1 w1 (fun n hn => ?_)]
  have := h n hn
  rw [get_look n kv, get_look n kw] at this
  cases e1 : look ocmp v.fields n with
  | none =>
    cases e2 : look ocmp w.fields n with
    | none => rfl
    | some z =>
      rw [e1, e2] at this
      have h2 := (w2 _ (look_mem ordI w1 hn e2)).1
      have : v0 = z := this
      rw [← this] at h2
      exact absurd rfl h2
  | some y =>
    have h1 := (v2 _ (look_mem ordI v1 hn e1)).1
    cases e2 : look ocmp w.fields n with
    | none =>
      rw [e1, e2] at this
      have : y = v0 := this
      rw [this] at h1
      exact absurd rfl h1
    | some z =>
      rw [e1, e2] at this
      have : y = z := this
      rw [this]

/-- what is found in maps, put into them -/
theorem find_look {v : V} (k : V) (hr : right v = true) (hk : v.kind = 5 ∨ v.kind = 0) : find v k = (look cmp v.pairs k).getD v0 := by
  rw [← look_eq cmp v0]
  unfold find
  have e : hitP v.pairs k = ghit cmp v0 v.pairs k := rfl
  have e2 : posP v.pairs k = gpos cmp v0 v.pairs k := rfl
  rw [e, e2]
  rcases hk with hk | hk
  · by_cases h : ghit cmp v0 v.pairs k = true <;> simp [h, hk]
  · have e3 : v.pairs = [] := by rw [right_none hr hk]; rfl
    rw [e3]
    simp [ghit, hk]
theorem put_ins {v : V} {k : V} (x : V) (hk : v.kind = 5 ∨ v.kind = 0) : putV v k x = mkP (ins cmp v.pairs k x) := by
  unfold putV putP mkP
  rw [if_pos hk, ← ins_eq cmp v0]
  rfl
/-- the keys of a right map are of one kind -/
def KeysOf (kd : Int) (v : V) : Prop := (v.kind = 5 ∨ v.kind = 0) ∧ Srt cmp (KP kd) v.pairs ∧ ∀ e ∈ v.pairs, okP e
theorem keys_of {v k : V} (hr : right v = true) (hk : v.kind = 5 ∨ v.kind = 0) (h : v.pairs = [] ∨ ∃ e, v.pairs.head? = some e ∧ e.1.kind = k.kind) : KeysOf k.kind v := by
  refine ⟨hk, ?_⟩
  rcases rightP_none (right_map hr hk).2 with e | ⟨kd, ⟨e, h1, h2⟩, h3, h4⟩
  · rw [e]; exact ⟨⟨by simp, by simp⟩, by simp⟩
  · rcases h with h | ⟨e', h5, h6⟩
    · rw [h] at h1; cases h1
    · rw [h1] at h5; cases h5
      rw [← h6, h2]; exact ⟨h3, h4⟩
theorem right_find {v k : V} (hr : right v = true) (hv : KeysOf k.kind v) (hk : KP k.kind k) : right (find v k) = true := by
  rw [find_look k hr hv.1]
  cases h : look cmp v.pairs k with
  | none => exact right_v0
  | some y =>
    have := hv.2.2 _ (look_mem (ordP _) hv.2.1 hk h)
    unfold okP partB at this
    simp only [Bool.and_eq_true] at this
    exact this.2
theorem keys_put {v k x : V} {kd : Int} (hv : KeysOf kd v) (hk : KP kd k) (hx : x.kind = 0 ∨ partB x = true) : KeysOf kd (putV v k x) := by
  rw [put_ins x hv.1]
  refine ⟨mkP_kind _, ?_⟩
  rw [mkP_pairs]
  refine ⟨srt_ins (ordP kd) x hv.2.1 hk, fun e he => ?_⟩
  rcases mem_ins (ordP kd) he with he | ⟨rfl, hx0⟩
  · exact hv.2.2 e he
  · exact hx.resolve_left hx0
theorem right_keys {v : V} {kd : Int} (hv : KeysOf kd v) (hm : v = mkP v.pairs) : right v = true := by
  rw [hm]; exact right_mkP (rightP_of hv.2.1 hv.2.2)
theorem right_put {v k x : V} {kd : Int} (hv : KeysOf kd v) (hk : KP kd k) (hx : x.kind = 0 ∨ partB x = true) : right (putV v k x) = true := by
  refine right_keys (keys_put hv hk hx) ?_
  rw [put_ins x hv.1, mkP_pairs]
theorem find_put {v k x : V} {kd : Int} (hv : KeysOf kd v) (hk : KP kd k) (hx : x.kind = 0 ∨ partB x = true) (hx2 : right x = true) : find (putV v k x) k = x := by
  rw [find_look k (right_put hv hk hx) (keys_put hv hk hx).1, put_ins x hv.1, mkP_pairs, look_ins_same (ordP kd) x hv.2.1 hk]
  exact opt_v0 hx2
theorem find_put_ne {v k m x : V} {kd : Int} (hr : right v = true) (hv : KeysOf kd v) (hk : KP kd k) (hm : KP kd m) (hx : x.kind = 0 ∨ partB x = true) (hne : m ≠ k) : find (putV v k x) m = find v m := by
  rw [find_look m (right_put hv hk hx) (keys_put hv hk hx).1, find_look m hr hv.1, put_ins x hv.1, mkP_pairs, look_ins_ne (ordP kd) x hv.2.1 hk hm hne]
theorem map_ext {v w : V} {kd : Int} (rv : right v = true) (rw_ : right w = true) (hv : KeysOf kd v) (hw : KeysOf kd w) (h : ∀ n, KP kd n → find v n = find w n) : v = w := by
  rw [(right_map rv hv.1).1, (right_map rw_ hw.1).1]
  rw [srt_ext (ordP kd) hv.2.1 hw.2.1 (fun n hn => ?_)]
  have := h n hn
  rw [find_look n rv hv.1, find_look n rw_ hw.1] at this
  have ne : ∀ {y : V}, partB y = true → y ≠ v0 := fun {y} hy e => by
    subst e; unfold partB v0 at hy; simp [V.kind] at hy
  cases e1 : look cmp v.pairs n with
  | none =>
    cases e2 : look cmp w.pairs n with
    | none => rfl
    | some z =>
      rw [e1, e2] at this
      exact absurd (show z = v0 from this.symm) (ne (hw.2.2 _ (look_mem (ordP kd) hw.2.1 hn e2)))
  | some y =>
    cases e2 : look cmp w.pairs n with
    | none =>
      rw [e1, e2] at this
      exact absurd (show y = v0 from this) (ne (hv.2.2 _ (look_mem (ordP kd) hv.2.1 hn e1)))
    | some z =>
      rw [e1, e2] at this
      have : y = z := this
      rw [this]
theorem mono_fields {v : V} {n : Int} (hr : right v = true) (hk : v.kind = 3) (hn : KI n) : MonoN (cF v.fields n) v.fields.length :=
  srt_mono ordI 0 (srt_fields hr hk).1 hn
theorem mono_pairs {v k : V} {kd : Int} (hv : KeysOf kd v) (hk : KP kd k) : MonoN (cP v.pairs k) v.pairs.length :=
  srt_mono (ordP kd) v0 hv.2.1 hk

end Go.Proofs.YtkldcjlkeblggaaDoor.Val

/- Plain facts: edits done to values; what comes of right values is right; edits are one to one. -/
namespace Go.Proofs.YtkldcjlkeblggaaDoor.Val
set_option linter.unusedVariables false

/-- an edit's result: the error's number, or a value -/
inductive Res (α : Type) where
  | bad (n : Nat)
  | ok (x : α)
def setRest (v : V) (r : ByteArray) : V := .mk v.kind v.num v.text v.fields r v.list v.pairs
def headKind (v k : V) : Prop := ∃ e, v.pairs.head? = some e ∧ e.1.kind ≠ k.kind
instance (v k : V) : Decidable (headKind v k) := match h : v.pairs.head? with
  | none => isFalse (fun ⟨e, h2, _⟩ => by rw [h] at h2; cases h2)
  | some e => if h3 : e.1.kind ≠ k.kind then isTrue ⟨e, h, h3⟩ else isFalse (fun ⟨e', h2, h4⟩ => by rw [h] at h2; cases h2; exact h3 h4)

mutual
def ado : E → V → Res V
  | .mk k o n f r ro rn s ks, v =>
    if k = 1 then (if cmp o v = 0 then .ok n else .bad 13)
    else if k = 2 then (if v.kind = 3 then (match adoF f v with
      | .bad b => .bad b
      | .ok w => if r = true then (if w.rest = ro then .ok (setRest w rn) else .bad 13) else .ok w) else .bad 13)
    else if k = 3 then (if v.kind = 4 ∨ v.kind = 0 then (match adoS s v.list [] with
      | .bad b => .bad b
      | .ok (left, out) => if 0 < left.length then .bad 13 else .ok (mkL out)) else .bad 13)
    else if k = 4 then (if v.kind = 5 ∨ v.kind = 0 then adoK ks v else .bad 13)
    else .ok v
def adoF : List (Int × E) → V → Res V
  | [], v => .ok v
  | (n, e) :: r, v => match ado e (get v n) with
    | .bad b => .bad b
    | .ok x => adoF r (withV v n x)
def adoS : List (Int × Int × V × E) → List V → List V → Res (List V × List V)
  | [], l, o => .ok (l, o)
  | (k, c, v, e) :: r, l, o =>
    if k = 1 then (if (l.length : Int) < c then .bad 13 else adoS r (l.drop c.toNat) (o ++ l.take c.toNat))
    else if k = 2 then (match l with
      | [] => .bad 13
      | x :: l' => if cmp x v = 0 then adoS r l' o else .bad 13)
    else if k = 3 then adoS r l (o ++ [v])
    else (match l with
      | [] => .bad 13
      | x :: l' => match ado e x with
        | .bad b => .bad b
        | .ok y => if 1 ≤ y.kind ∧ y.kind ≤ 3 then adoS r l' (o ++ [y]) else .bad 12)
def adoK : List (V × E) → V → Res V
  | [], v => .ok v
  | (k, e) :: r, v => if headKind v k then .bad 13 else match ado e (find v k) with
    | .bad b => .bad b
    | .ok x => if x.kind ≠ 0 ∧ ¬ (1 ≤ x.kind ∧ x.kind ≤ 3) then .bad 12 else adoK r (putV v k x)
end

/-- what right steps are: one by one -/
def stepB (k c : Int) (v : V) (e : E) : Prop := (k = 1 ∧ 1 ≤ c ∧ c ≤ 1048576) ∨ (k = 2 ∧ partB v = true) ∨ (k = 3 ∧ partB v = true) ∨ (k = 4 ∧ eright e = true)
theorem step_b {k c : Int} {v : V} {e : E} (h : stepRight k c v e = true) : stepB k c v e := by
  unfold stepRight at h
  unfold stepB
  split at h
  · simp only [Bool.and_eq_true, decide_eq_true_eq] at h; exact .inl ⟨‹_›, h.1⟩
  · split at h
    · rename_i h2
      simp only [Bool.and_eq_true, decide_eq_true_eq] at h
      rcases h2 with h2 | h2
      · exact .inr (.inl ⟨h2, h.2.1⟩)
      · exact .inr (.inr (.inl ⟨h2, h.2.1⟩))
    · split at h
      · simp only [Bool.and_eq_true, decide_eq_true_eq, esome] at h; exact .inr (.inr (.inr ⟨‹_›, h.2.2.2⟩))
      · cases h
theorem esteps_cons {last : Int} {ch : Bool} {k c : Int} {v : V} {e : E} {r : List (Int × Int × V × E)} : esteps last ch ((k, c, v, e) :: r) = (stepRight k c v e && !(decide (last = 1 ∧ k = 1)) && !(decide (last = 3 ∧ k = 2)) && esteps k (ch || decide (k ≠ 1)) r) := by
  rw [esteps]; rfl
def allF (f : List (Int × E)) : Prop := ∀ e ∈ f, KI e.1 ∧ eright e.2 = true
def allS (s : List (Int × Int × V × E)) : Prop := ∀ e ∈ s, stepB e.1 e.2.1 e.2.2.1 e.2.2.2
def allK (s : List (V × E)) : Prop := ∀ e ∈ s, KP e.1.kind e.1 ∧ eright e.2 = true
theorem efields_all : ∀ (f : List (Int × E)) (last : Int), 0 ≤ last → efields last f = true → allF f
  | [], _, _, _ => fun e he => by simp at he
  | (n, x) :: r, last, h0, h => by
    rw [efields] at h
    simp only [Bool.and_eq_true, decide_eq_true_eq] at h
    obtain ⟨⟨⟨h1, h2⟩, h3, h4⟩, h5⟩ := h
    intro e he
    rcases List.mem_cons.1 he with rfl | he
    · exact ⟨⟨by show 1 ≤ n; omega, h2⟩, h4⟩
    · exact efields_all r n (by omega) h5 e he
theorem esteps_all : ∀ (s : List (Int × Int × V × E)) (last : Int) (ch : Bool), esteps last ch s = true → allS s
  | [], _, _, _ => fun e he => by simp at he
  | (k, c, v, x) :: r, last, ch, h => by
    rw [esteps_cons] at h
    simp only [Bool.and_eq_true] at h
    intro e he
    rcases List.mem_cons.1 he with rfl | he
    · exact step_b h.1.1.1
    · exact esteps_all r k _ h.2 e he
theorem ekeys_all : ∀ (s : List (V × E)) (last : Option V), ekeys last s = true → allK s
  | [], _, _ => fun e he => by simp at he
  | (k, x) :: r, last, h => by
    rw [ekeys.eq_def] at h
    simp only [Bool.and_eq_true, decide_eq_true_eq] at h
    intro e he
    rcases List.mem_cons.1 he with rfl | he
    · exact ⟨⟨rfl, h.1.1.1.1, h.1.1.1.2⟩, h.1.1.2.2⟩
    · exact ekeys_all r _ h.2 e he

theorem eright_parts {k : Int} {o n : V} {f : List (Int × E)} {r : Bool} {ro rn : ByteArray} {s : List (Int × Int × V × E)} {ks : List (V × E)} (h : eright (.mk k o n f r ro rn s ks) = true) :
    bareE k o n f.length r ro rn s.length ks.length = true ∧ (k = 0 ∨ (k = 1 ∧ right o = true ∧ right n = true ∧ cmp o n ≠ 0) ∨ (k = 2 ∧ allF f) ∨ (k = 3 ∧ allS s) ∨ (k = 4 ∧ allK ks)) := by
  rw [eright, Bool.and_eq_true] at h
  refine ⟨h.1, ?_⟩
  have h := h.2
  split at h
  · exact .inl ‹_›
  · split at h
    · simp only [Bool.and_eq_true, Bool.not_eq_true', decide_eq_false_iff_not] at h; exact .inr (.inl ⟨‹_›, h⟩)
    · split at h
      · simp only [Bool.and_eq_true] at h; exact .inr (.inr (.inl ⟨‹_›, efields_all f 0 (by omega) h.1⟩))
      · split at h
        · exact .inr (.inr (.inr (.inl ⟨‹_›, esteps_all s 0 false h⟩)))
        · split at h
          · simp only [Bool.and_eq_true] at h; exact .inr (.inr (.inr (.inr ⟨‹_›, ekeys_all ks none h.2⟩)))
          · cases h

theorem part_right {v : V} (h : partB v = true) : right v = true := by unfold partB at h; simp only [Bool.and_eq_true] at h; exact h.2
theorem part_of {v : V} (h : 1 ≤ v.kind ∧ v.kind ≤ 3) (hr : right v = true) : partB v = true := by unfold partB; simp [h, hr]
theorem rightL_mem {l : List V} : rightL l = true ↔ ∀ v ∈ l, partB v = true := by rw [rightL_all, List.all_eq_true]
theorem right_setRest {v : V} (r : ByteArray) (h : right v = true) (hk : v.kind = 3) : right (setRest v r) = true := by
  have e := right_msg h hk
  have e2 : setRest v r = mkM v.fields r := by
    rw [e.1]; rfl
  rw [e2, right_mkM]; exact e.2
theorem kinds_of {v k : V} (hr : right v = true) (hk : v.kind = 5 ∨ v.kind = 0) (h : ¬ headKind v k) : KeysOf k.kind v := by
  refine keys_of hr hk ?_
  cases hv : v.pairs with
  | nil => exact .inl rfl
  | cons e r =>
    right
    refine ⟨e, rfl, ?_⟩
    by_cases h2 : e.1.kind = k.kind
    · exact h2
    · exact absurd ⟨e, by rw [hv]; rfl, h2⟩ h

mutual
/-- what comes of right values is right -/
theorem ado_right : ∀ (e : E) (v x : V), eright e = true → right v = true → ado e v = .ok x → right x = true
  | .mk k o n f r ro rn s ks, v, x, he, hv, h => by
    obtain ⟨_, he⟩ := eright_parts he
    rw [ado] at h
    rcases he with rfl | ⟨rfl, h1, h2, h3⟩ | ⟨rfl, h1⟩ | ⟨rfl, h1⟩ | ⟨rfl, h1⟩
    · simp at h; subst h; exact hv
    · simp at h
      split at h
      · cases h; exact h2
      · cases h
    · simp at h
      split at h
      case isFalse => cases h
      case isTrue hk =>
      cases hF : adoF f v with
      | bad b => rw [hF] at h; cases h
      | ok w =>
        rw [hF] at h
        obtain ⟨hw, kw⟩ := adoF_right f v w h1 hv hk hF
        simp only at h
        split at h
        · split at h
          · cases h; exact right_setRest rn hw kw
          · cases h
        · cases h; exact hw
    · simp at h
      split at h
      case isFalse => cases h
      case isTrue hk =>
      cases hS : adoS s v.list [] with
      | bad b => rw [hS] at h; cases h
      | ok p =>
        obtain ⟨left, out⟩ := p
        rw [hS] at h
        have := adoS_right s v.list [] left out h1 (rightL_mem.1 (right_list hv hk).2) (by simp) hS
        simp only at h
        split at h
        · cases h
        · cases h; exact right_mkL (rightL_mem.2 this.2)
    · simp at h
      split at h
      case isFalse => cases h
      case isTrue hk =>
      exact (adoK_right ks v x h1 hv hk h).1
theorem adoF_right : ∀ (f : List (Int × E)) (v x : V), allF f → right v = true → v.kind = 3 → adoF f v = .ok x → right x = true ∧ x.kind = 3
  | [], v, x, _, hv, hk, h => by rw [adoF] at h; cases h; exact ⟨hv, hk⟩
  | (n, e) :: r, v, x, ha, hv, hk, h => by
    rw [adoF] at h
    have h1 := ha (n, e) (by simp)
    cases hE : ado e (get v n) with
    | bad b => rw [hE] at h; cases h
    | ok y =>
      rw [hE] at h
      have hy := ado_right e (get v n) y h1.2 (right_get hv hk h1.1) hE
      exact adoF_right r (withV v n y) x (fun e he => ha e (by simp [he])) (right_with hv hk h1.1 hy) (kind_with hk) h
theorem adoS_right : ∀ (s : List (Int × Int × V × E)) (l o l' o' : List V), allS s → (∀ v ∈ l, partB v = true) → (∀ v ∈ o, partB v = true) → adoS s l o = .ok (l', o') → (∀ v ∈ l', partB v = true) ∧ ∀ v ∈ o', partB v = true
  | [], l, o, l', o', _, hl, ho, h => by rw [adoS] at h; cases h; exact ⟨hl, ho⟩
  | (k, c, v, e) :: r, l, o, l', o', ha, hl, ho, h => by
    have hr : allS r := fun e he => ha e (by simp [he])
    have h1 : stepB k c v e := ha (k, c, v, e) (by simp)
    rw [adoS.eq_def] at h
    rcases h1 with ⟨rfl, h1, h2⟩ | ⟨rfl, h1⟩ | ⟨rfl, h1⟩ | ⟨rfl, h1⟩
    · simp at h
      split at h
      · cases h
      · refine adoS_right r _ _ l' o' hr (fun v hv => hl v (List.mem_of_mem_drop hv)) (fun v hv => ?_) h
        rcases List.mem_append.1 hv with hv | hv
        · exact ho v hv
        · exact hl v (List.mem_of_mem_take hv)
    · simp at h
      cases l with
      | nil => cases h
      | cons x t =>
        simp only at h
        split at h
        · exact adoS_right r t o l' o' hr (fun v hv => hl v (by simp [hv])) ho h
        · cases h
    · simp at h
      refine adoS_right r l _ l' o' hr hl (fun u hu => ?_) h
      rcases List.mem_append.1 hu with hu | hu
      · exact ho u hu
      · obtain rfl : u = v := by simpa using hu
        exact h1
    · simp at h
      cases l with
      | nil => cases h
      | cons x t =>
        simp only at h
        cases hE : ado e x with
        | bad b => rw [hE] at h; cases h
        | ok y =>
          rw [hE] at h
          have hy := ado_right e x y h1 (part_right (hl x (by simp))) hE
          simp only at h
          split at h
          · rename_i hk
            refine adoS_right r t _ l' o' hr (fun v hv => hl v (by simp [hv])) (fun u hu => ?_) h
            rcases List.mem_append.1 hu with hu | hu
            · exact ho u hu
            · obtain rfl : u = y := by simpa using hu
              exact part_of hk hy
          · cases h
theorem adoK_right : ∀ (f : List (V × E)) (v x : V), allK f → right v = true → (v.kind = 5 ∨ v.kind = 0) → adoK f v = .ok x → right x = true ∧ (x.kind = 5 ∨ x.kind = 0)
  | [], v, x, _, hv, hk, h => by rw [adoK] at h; cases h; exact ⟨hv, hk⟩
  | (k, e) :: r, v, x, ha, hv, hk, h => by
    rw [adoK] at h
    have h1 := ha (k, e) (by simp)
    split at h
    case isTrue => cases h
    case isFalse hh =>
    have hO := kinds_of hv hk hh
    cases hE : ado e (find v k) with
    | bad b => rw [hE] at h; cases h
    | ok y =>
      rw [hE] at h
      have hy := ado_right e (find v k) y h1.2 (right_find hv hO h1.1) hE
      simp only at h
      split at h
      · cases h
      · rename_i hk2
        have hy2 : y.kind = 0 ∨ partB y = true := by
          by_cases h0 : y.kind = 0
          · exact .inl h0
          · refine .inr (part_of ?_ hy)
            by_cases h3 : 1 ≤ y.kind ∧ y.kind ≤ 3
            · exact h3
            · exact absurd ⟨h0, h3⟩ hk2
        exact adoK_right r (putV v k y) x (fun e he => ha e (by simp [he])) (right_put hO h1.1 hy2) (keys_put hO h1.1 hy2).1 h
end

mutual
/-- edits are one to one -/
theorem ado_inj : ∀ (e : E) (v w x : V), eright e = true → right v = true → right w = true → ado e v = .ok x → ado e w = .ok x → v = w
  | .mk k o n f r ro rn s ks, v, w, x, he, hv, hw, h, h' => by
    obtain ⟨_, he⟩ := eright_parts he
    rw [ado] at h h'
    rcases he with rfl | ⟨rfl, h1, h2, h3⟩ | ⟨rfl, h1⟩ | ⟨rfl, h1⟩ | ⟨rfl, h1⟩
    · simp at h h'; rw [h, h']
    · simp at h h'
      split at h
      case isFalse => cases h
      split at h'
      case isFalse => cases h'
      rename_i e1 e2
      rw [← cmp_eq o v h1 hv e1, ← cmp_eq o w h1 hw e2]
    · simp at h h'
      split at h
      case isFalse => cases h
      split at h'
      case isFalse => cases h'
      rename_i kv kw
      cases hF : adoF f v with
      | bad b => rw [hF] at h; cases h
      | ok a =>
      cases hG : adoF f w with
      | bad b => rw [hG] at h'; cases h'
      | ok b =>
        rw [hF] at h
        rw [hG] at h'
        obtain ⟨ra, ka⟩ := adoF_right f v a h1 hv kv hF
        obtain ⟨rb, kb⟩ := adoF_right f w b h1 hw kw hG
        simp only at h h'
        have : a = b := by
          split at h
          · split at h'
            case isFalse => simp_all
            split at h
            case isFalse => cases h
            split at h'
            case isFalse => cases h'
            rename_i q1 q2
            cases h
            injection h' with h'
            rw [(right_msg ra ka).1, (right_msg rb kb).1, q1, q2]
            have : a.fields = b.fields := by
              have := congrArg V.fields h'
              exact this.symm
            rw [this]
          · split at h'
            case isTrue => simp_all
            cases h; cases h'; rfl
        subst this
        exact adoF_inj f v w a h1 hv hw kv kw hF hG
    · simp at h h'
      split at h
      case isFalse => cases h
      split at h'
      case isFalse => cases h'
      rename_i kv kw
      cases hS : adoS s v.list [] with
      | bad b => rw [hS] at h; cases h
      | ok p =>
      cases hT : adoS s w.list [] with
      | bad b => rw [hT] at h'; cases h'
      | ok q =>
        obtain ⟨l1, o1⟩ := p
        obtain ⟨l2, o2⟩ := q
        rw [hS] at h
        rw [hT] at h'
        simp only at h h'
        split at h
        case isTrue => cases h
        split at h'
        case isTrue => cases h'
        rename_i e1 e2
        have e3 : mkL o1 = mkL o2 := by injection h with h; injection h' with h'; rw [h, h']
        have e4 : o1 = o2 := by rw [← mkL_list o1, ← mkL_list o2, e3]
        have e5 : l1 = [] := List.eq_nil_of_length_eq_zero (by omega)
        have e6 : l2 = [] := List.eq_nil_of_length_eq_zero (by omega)
        subst e4 e5 e6
        have hl := right_list hv kv
        have hm := right_list hw kw
        rw [hl.1, hm.1, (adoS_inj s v.list w.list [] [] [] o1 h1 (rightL_mem.1 hl.2) (rightL_mem.1 hm.2) rfl hS hT).1]
    · simp at h h'
      split at h
      case isFalse => cases h
      split at h'
      case isFalse => cases h'
      rename_i kv kw
      exact adoK_inj ks v w x h1 hv hw kv kw h h'
theorem adoF_inj : ∀ (f : List (Int × E)) (v w x : V), allF f → right v = true → right w = true → v.kind = 3 → w.kind = 3 → adoF f v = .ok x → adoF f w = .ok x → v = w
  | [], v, w, x, _, _, _, _, _, h, h' => by rw [adoF] at h h'; cases h; cases h'; rfl
  | (n, e) :: r, v, w, x, ha, hv, hw, kv, kw, h, h' => by
    rw [adoF] at h h'
    have h1 := ha (n, e) (by simp)
    cases hE : ado e (get v n) with
    | bad b => rw [hE] at h; cases h
    | ok y =>
    cases hG : ado e (get w n) with
    | bad b => rw [hG] at h'; cases h'
    | ok z =>
      rw [hE] at h
      rw [hG] at h'
      simp only at h h'
      have hy := ado_right e _ y h1.2 (right_get hv kv h1.1) hE
      have hz := ado_right e _ z h1.2 (right_get hw kw h1.1) hG
      have ih := adoF_inj r (withV v n y) (withV w n z) x (fun e he => ha e (by simp [he])) (right_with hv kv h1.1 hy) (right_with hw kw h1.1 hz) (kind_with kv) (kind_with kw) h h'
      have yz : y = z := by rw [← get_with hv kv h1.1 hy, ← get_with hw kw h1.1 hz, ih]
      subst yz
      have e0 := ado_inj e (get v n) (get w n) y h1.2 (right_get hv kv h1.1) (right_get hw kw h1.1) hE hG
      refine msg_ext hv hw kv kw ?_ (fun m hm => ?_)
      · rw [← rest_with (v := v) (n := n) (x := y), ih, rest_with]
      · by_cases hne : m = n
        · subst hne; exact e0
        · rw [← get_with_ne hv kv h1.1 hm hne (x := y), ih, get_with_ne hw kw h1.1 hm hne]
theorem adoS_inj : ∀ (s : List (Int × Int × V × E)) (l m o p l' o' : List V), allS s → (∀ v ∈ l, partB v = true) → (∀ v ∈ m, partB v = true) → o.length = p.length → adoS s l o = .ok (l', o') → adoS s m p = .ok (l', o') → l = m ∧ o = p
  | [], l, m, o, p, l', o', _, _, _, _, h, h' => by rw [adoS] at h h'; cases h; cases h'; exact ⟨rfl, rfl⟩
  | (k, c, v, e) :: r, l, m, o, p, l', o', ha, hl, hm, hlen, h, h' => by
    have hr : allS r := fun e he => ha e (by simp [he])
    have h1 : stepB k c v e := ha (k, c, v, e) (by simp)
    rw [adoS.eq_def] at h h'
    rcases h1 with ⟨rfl, h1, h2⟩ | ⟨rfl, h1⟩ | ⟨rfl, h1⟩ | ⟨rfl, h1⟩
    · simp at h h'
      split at h
      · cases h
      split at h'
      · cases h'
      rename_i q1 q2
      have len : (o ++ l.take c.toNat).length = (p ++ m.take c.toNat).length := by
        simp only [List.length_append, List.length_take]; omega
      obtain ⟨e1, e2⟩ := adoS_inj r _ _ _ _ l' o' hr (fun v hv => hl v (List.mem_of_mem_drop hv)) (fun v hv => hm v (List.mem_of_mem_drop hv)) len h h'
      obtain ⟨e3, e4⟩ := List.append_inj e2 hlen
      exact ⟨by rw [← List.take_append_drop c.toNat l, ← List.take_append_drop c.toNat m, e1, e4], e3⟩
    · simp at h h'
      cases l with
      | nil => cases h
      | cons x t =>
      cases m with
      | nil => cases h'
      | cons y u =>
        simp only at h h'
        split at h
        case isFalse => cases h
        split at h'
        case isFalse => cases h'
        rename_i q1 q2
        obtain ⟨e1, e2⟩ := adoS_inj r t u o p l' o' hr (fun v hv => hl v (by simp [hv])) (fun v hv => hm v (by simp [hv])) hlen h h'
        have e3 := cmp_eq x v (part_right (hl x (by simp))) (part_right h1) q1
        have e4 := cmp_eq y v (part_right (hm y (by simp))) (part_right h1) q2
        exact ⟨by rw [e1, e3, e4], e2⟩
    · simp at h h'
      obtain ⟨e1, e2⟩ := adoS_inj r l m (o ++ [v]) (p ++ [v]) l' o' hr hl hm (by simp [hlen]) h h'
      exact ⟨e1, (List.append_inj e2 hlen).1⟩
    · simp at h h'
      cases l with
      | nil => cases h
      | cons x t =>
      cases m with
      | nil => cases h'
      | cons y u =>
        simp only at h h'
        cases hE : ado e x with
        | bad b => rw [hE] at h; cases h
        | ok a =>
        cases hG : ado e y with
        | bad b => rw [hG] at h'; cases h'
        | ok b =>
          rw [hE] at h
          rw [hG] at h'
          simp only at h h'
          split at h
          case isFalse => cases h
          split at h'
          case isFalse => cases h'
          obtain ⟨e1, e2⟩ := adoS_inj r t u (o ++ [a]) (p ++ [b]) l' o' hr (fun v hv => hl v (by simp [hv])) (fun v hv => hm v (by simp [hv])) (by simp [hlen]) h h'
          obtain ⟨e3, e4⟩ := List.append_inj e2 hlen
          have e5 : a = b := by simpa using e4
          subst e5
          exact ⟨by rw [e1, ado_inj e x y a h1 (part_right (hl x (by simp))) (part_right (hm y (by simp))) hE hG], e3⟩
theorem adoK_inj : ∀ (f : List (V × E)) (v w x : V), allK f → right v = true → right w = true → (v.kind = 5 ∨ v.kind = 0) → (w.kind = 5 ∨ w.kind = 0) → adoK f v = .ok x → adoK f w = .ok x → v = w
  | [], v, w, x, _, _, _, _, _, h, h' => by rw [adoK] at h h'; cases h; cases h'; rfl
  | (k, e) :: r, v, w, x, ha, hv, hw, kv, kw, h, h' => by
    rw [adoK] at h h'
    have h1 := ha (k, e) (by simp)
    split at h
    case isTrue => cases h
    split at h'
    case isTrue => cases h'
    rename_i hh1 hh2
    have hO := kinds_of hv kv hh1
    have hO' := kinds_of hw kw hh2
    cases hE : ado e (find v k) with
    | bad b => rw [hE] at h; cases h
    | ok y =>
    cases hG : ado e (find w k) with
    | bad b => rw [hG] at h'; cases h'
    | ok z =>
      rw [hE] at h
      rw [hG] at h'
      simp only at h h'
      have hy := ado_right e _ y h1.2 (right_find hv hO h1.1) hE
      have hz := ado_right e _ z h1.2 (right_find hw hO' h1.1) hG
      split at h
      case isTrue => cases h
      split at h'
      case isTrue => cases h'
      rename_i hk1 hk2
      have part : ∀ {y : V}, right y = true → ¬ (y.kind ≠ 0 ∧ ¬ (1 ≤ y.kind ∧ y.kind ≤ 3)) → y.kind = 0 ∨ partB y = true := fun {y} hy hk => by
        by_cases h0 : y.kind = 0
        · exact .inl h0
        · refine .inr (part_of ?_ hy)
          by_cases h3 : 1 ≤ y.kind ∧ y.kind ≤ 3
          · exact h3
          · exact absurd ⟨h0, h3⟩ hk
      have py := part hy hk1
      have pz := part hz hk2
      have ih := adoK_inj r (putV v k y) (putV w k z) x (fun e he => ha e (by simp [he])) (right_put hO h1.1 py) (right_put hO' h1.1 pz) (keys_put hO h1.1 py).1 (keys_put hO' h1.1 pz).1 h h'
      have yz : y = z := by rw [← find_put hO h1.1 py hy, ← find_put hO' h1.1 pz hz, ih]
      subst yz
      have e0 := ado_inj e (find v k) (find w k) y h1.2 (right_find hv hO h1.1) (right_find hw hO' h1.1) hE hG
      refine map_ext hv hw hO hO' (fun m hm => ?_)
      by_cases hne : m = k
      · subst hne; exact e0
      · rw [← find_put_ne hv hO h1.1 hm py hne, ih, find_put_ne hw hO' h1.1 hm pz hne]
end

end Go.Proofs.YtkldcjlkeblggaaDoor.Val

/- Plain facts: how long the lists within values grow by edits. -/
namespace Go.Proofs.YtkldcjlkeblggaaDoor.Val
set_option linter.unusedVariables false

mutual
/-- the longest list within a value -/
def vmx : V → Nat
  | .mk _ _ _ f _ l p => max (max f.length (vmxF f)) (max (max l.length (vmxL l)) (max p.length (vmxP p)))
def vmxF : List (Int × V) → Nat
  | [] => 0
  | (_, v) :: r => max (vmx v) (vmxF r)
def vmxL : List V → Nat
  | [] => 0
  | v :: r => max (vmx v) (vmxL r)
def vmxP : List (V × V) → Nat
  | [] => 0
  | (k, v) :: r => max (max (vmx k) (vmx v)) (vmxP r)
end
mutual
/-- how much an edit can lengthen lists -/
def esz : E → Nat
  | .mk _ o n f _ _ _ s k => vmx o + vmx n + eszF f + eszS s + eszK k
def eszF : List (Int × E) → Nat
  | [] => 0
  | (_, e) :: r => 1 + esz e + eszF r
def eszS : List (Int × Int × V × E) → Nat
  | [] => 0
  | (_, _, v, e) :: r => 1 + vmx v + esz e + eszS r
def eszK : List (V × E) → Nat
  | [] => 0
  | (k, e) :: r => 1 + vmx k + esz e + eszK r
end

theorem vmxF_mem : ∀ {l : List (Int × V)} {e : Int × V}, e ∈ l → vmx e.2 ≤ vmxF l
  | (n, v) :: r, e, h => by
    rw [vmxF]
    rcases List.mem_cons.1 h with rfl | h
    · exact Nat.le_max_left _ _
    · have := vmxF_mem h; omega
theorem vmxL_mem : ∀ {l : List V} {e : V}, e ∈ l → vmx e ≤ vmxL l
  | v :: r, e, h => by
    rw [vmxL]
    rcases List.mem_cons.1 h with rfl | h
    · exact Nat.le_max_left _ _
    · have := vmxL_mem h; omega
theorem vmxP_mem : ∀ {l : List (V × V)} {e : V × V}, e ∈ l → vmx e.1 ≤ vmxP l ∧ vmx e.2 ≤ vmxP l
  | (n, v) :: r, e, h => by
    rw [vmxP]
    rcases List.mem_cons.1 h with rfl | h
    · constructor <;> simp only <;> omega
    · have := vmxP_mem h; omega
theorem vmxF_le : ∀ {l : List (Int × V)} {B : Nat}, (∀ e ∈ l, vmx e.2 ≤ B) → vmxF l ≤ B
  | [], _, _ => by rw [vmxF]; omega
  | (n, v) :: r, B, h => by
    rw [vmxF]
    have h1 := h (n, v) (by simp)
    have h2 := vmxF_le (l := r) (fun e he => h e (by simp [he]))
    simp only at h1; omega
theorem vmxL_le : ∀ {l : List V} {B : Nat}, (∀ e ∈ l, vmx e ≤ B) → vmxL l ≤ B
  | [], _, _ => by rw [vmxL]; omega
  | v :: r, B, h => by
    rw [vmxL]
    have h1 := h v (by simp)
    have h2 := vmxL_le (l := r) (fun e he => h e (by simp [he]))
    omega
theorem vmxP_le : ∀ {l : List (V × V)} {B : Nat}, (∀ e ∈ l, vmx e.1 ≤ B ∧ vmx e.2 ≤ B) → vmxP l ≤ B
  | [], _, _ => by rw [vmxP]; omega
  | (n, v) :: r, B, h => by
    rw [vmxP]
    have h1 := h (n, v) (by simp)
    have h2 := vmxP_le (l := r) (fun e he => h e (by simp [he]))
    simp only at h1; omega
theorem vmx_parts (v : V) : v.fields.length ≤ vmx v ∧ vmxF v.fields ≤ vmx v ∧ v.list.length ≤ vmx v ∧ vmxL v.list ≤ vmx v ∧ v.pairs.length ≤ vmx v ∧ vmxP v.pairs ≤ vmx v := by
  cases v
  rw [vmx]
  simp only [V.fields, V.list, V.pairs]
  omega
theorem vmx_v0 : vmx v0 = 0 := by unfold v0; rw [vmx]; simp [vmxF, vmxL, vmxP]

theorem get_vmx (v : V) (n : Int) : vmx (get v n) ≤ vmx v := by
  unfold get
  split
  · rename_i h
    have h2 := h.2
    unfold hitF at h2
    simp only [Bool.and_eq_true, decide_eq_true_eq] at h2
    have e : v.fields.getD (posF v.fields n) (0, v0) = v.fields[posF v.fields n]'h2.1 := by simp [List.getD_eq_getElem?_getD, List.getElem?_eq_getElem h2.1]
    rw [e]
    have := vmxF_mem (List.getElem_mem h2.1)
    have := vmx_parts v; omega
  · rw [vmx_v0]; omega
theorem find_vmx (v k : V) : vmx (find v k) ≤ vmx v := by
  unfold find
  split
  · rename_i h
    have h2 := h.2
    unfold hitP at h2
    simp only [Bool.and_eq_true, decide_eq_true_eq] at h2
    have e : v.pairs.getD (posP v.pairs k) (v0, v0) = v.pairs[posP v.pairs k]'h2.1 := by simp [List.getD_eq_getElem?_getD, List.getElem?_eq_getElem h2.1]
    rw [e]
    have := (vmxP_mem (List.getElem_mem h2.1)).2
    have := vmx_parts v; omega
  · rw [vmx_v0]; omega
theorem spl_mem {α : Type} {l : List α} {a m : Nat} {b : Bool} {x e : α} (h : e ∈ spl l a m b x) : e ∈ l ∨ e = x := by
  unfold spl at h
  rcases List.mem_append.1 h with h | h
  · exact .inl (List.mem_of_mem_take h)
  · rcases List.mem_append.1 h with h | h
    · split at h
      · exact .inr (by simpa using h)
      · simp at h
    · exact .inl (List.mem_of_mem_drop h)
theorem spl_len {α : Type} (l : List α) (a m : Nat) (b : Bool) (x : α) : (spl l a m b x).length ≤ l.length + 1 := by
  unfold spl
  simp only [List.length_append, List.length_take, List.length_drop]
  cases b <;> simp <;> omega
theorem with_vmx (v : V) (n : Int) (x : V) : vmx (withV v n x) ≤ max (vmx v + 1) (vmx x) := by
  unfold withV
  split
  · have hp := vmx_parts v
    have h1 := spl_len v.fields (posF v.fields n) (one (hitF v.fields n)) (decide (x.kind ≠ 0)) (n, x)
    have h2 : vmxF (spl v.fields (posF v.fields n) (one (hitF v.fields n)) (decide (x.kind ≠ 0)) (n, x)) ≤ max (vmx v) (vmx x) := vmxF_le (fun e he => by
      rcases spl_mem he with he | rfl
      · have := vmxF_mem he; omega
      · exact Nat.le_max_right _ _)
    rw [vmx]
    omega
  · omega
theorem put_vmx (v k x : V) : vmx (putV v k x) ≤ max (vmx v + 1) (max (vmx k) (vmx x)) := by
  unfold putV
  split
  · split
    · rw [vmx_v0]; omega
    · have hp := vmx_parts v
      have h1 := spl_len v.pairs (posP v.pairs k) (one (hitP v.pairs k)) (decide (x.kind ≠ 0)) (k, x)
      have h2 : vmxP (putP v k x) ≤ max (vmx v) (max (vmx k) (vmx x)) := vmxP_le (fun e he => by
        unfold putP at he
        rcases spl_mem he with he | rfl
        · have := vmxP_mem he; omega
        · constructor <;> simp only <;> omega)
      have h3 : (putP v k x).length ≤ v.pairs.length + 1 := h1
      rw [vmx]
      simp only [vmxF, vmxL, List.length_nil]
      omega
  · omega
theorem mkL_vmx (l : List V) : vmx (mkL l) ≤ max l.length (vmxL l) := by
  unfold mkL
  split
  · rw [vmx_v0]; omega
  · rw [vmx]; simp only [vmxF, vmxP, List.length_nil]; omega

mutual
theorem ado_vmx : ∀ (e : E) (v x : V), ado e v = .ok x → vmx x ≤ vmx v + esz e
  | .mk k o n f r ro rn s ks, v, x, h => by
    rw [ado] at h
    rw [esz]
    split at h
    · split at h
      · cases h; omega
      · cases h
    · split at h
      · split at h
        case isFalse => cases h
        cases hF : adoF f v with
        | bad b => rw [hF] at h; cases h
        | ok w =>
          rw [hF] at h
          have := adoF_vmx f v w hF
          simp only at h
          split at h
          · split at h
            · cases h
              have e : vmx (setRest w rn) = vmx w := by cases w; unfold setRest; rw [vmx, vmx]; rfl
              rw [e]; omega
            · cases h
          · cases h; omega
      · split at h
        · split at h
          case isFalse => cases h
          cases hS : adoS s v.list [] with
          | bad b => rw [hS] at h; cases h
          | ok p =>
            obtain ⟨left, out⟩ := p
            rw [hS] at h
            have h1 := adoS_vmx s v.list [] left out (vmx v) hS (vmx_parts v).2.2.2.1 (by rw [vmxL]; omega)
            simp only at h
            split at h
            · cases h
            · cases h
              have := mkL_vmx out
              have := vmx_parts v
              simp only [List.length_nil] at h1
              omega
        · split at h
          · split at h
            case isFalse => cases h
            have := adoK_vmx ks v x h
            omega
          · cases h; omega
theorem adoF_vmx : ∀ (f : List (Int × E)) (v x : V), adoF f v = .ok x → vmx x ≤ vmx v + eszF f
  | [], v, x, h => by rw [adoF] at h; cases h; rw [eszF]; omega
  | (n, e) :: r, v, x, h => by
    rw [adoF] at h
    rw [eszF]
    cases hE : ado e (get v n) with
    | bad b => rw [hE] at h; cases h
    | ok y =>
      rw [hE] at h
      have h1 := ado_vmx e (get v n) y hE
      have h2 := get_vmx v n
      have h3 := with_vmx v n y
      have h4 := adoF_vmx r (withV v n y) x h
      omega
theorem adoS_vmx : ∀ (s : List (Int × Int × V × E)) (l o l' o' : List V) (B : Nat), adoS s l o = .ok (l', o') → vmxL l ≤ B → vmxL o ≤ B → o'.length ≤ o.length + l.length + eszS s ∧ vmxL o' ≤ B + eszS s
  | [], l, o, l', o', B, h, hl, ho => by rw [adoS] at h; cases h; rw [eszS]; omega
  | (k, c, v, e) :: r, l, o, l', o', B, h, hl, ho => by
    rw [adoS.eq_def] at h
    rw [eszS]
    simp only at h
    have app : ∀ (a b : List V) (C : Nat), vmxL a ≤ C → vmxL b ≤ C → vmxL (a ++ b) ≤ C := fun a b C ha hb => vmxL_le (fun e he => by
      rcases List.mem_append.1 he with he | he
      · have := vmxL_mem he; omega
      · have := vmxL_mem he; omega)
    split at h
    · split at h
      · cases h
      · have h1 := adoS_vmx r _ _ l' o' B h (vmxL_le (fun e he => by have := vmxL_mem (List.mem_of_mem_drop he); omega)) (app _ _ _ ho (vmxL_le (fun e he => by have := vmxL_mem (List.mem_of_mem_take he); omega)))
        simp only [List.length_append, List.length_take, List.length_drop] at h1
        omega
    · split at h
      · cases l with
        | nil => cases h
        | cons x t =>
          simp only at h
          rw [vmxL] at hl
          split at h
          · have h1 := adoS_vmx r t o l' o' B h (by omega) ho
            simp only [List.length_cons]
            omega
          · cases h
      · split at h
        · have h1 := adoS_vmx r l (o ++ [v]) l' o' (B + vmx v) h (by omega) (app _ _ _ (by omega) (by rw [vmxL, vmxL]; omega))
          simp only [List.length_append, List.length_singleton] at h1
          omega
        · cases l with
          | nil => cases h
          | cons x t =>
            simp only at h
            rw [vmxL] at hl
            cases hE : ado e x with
            | bad b => rw [hE] at h; cases h
            | ok y =>
              rw [hE] at h
              have h0 := ado_vmx e x y hE
              simp only at h
              split at h
              · have h1 := adoS_vmx r t (o ++ [y]) l' o' (B + esz e) h (by omega) (app _ _ _ (by omega) (by rw [vmxL, vmxL]; omega))
                simp only [List.length_append, List.length_singleton] at h1
                simp only [List.length_cons]
                omega
              · cases h
theorem adoK_vmx : ∀ (f : List (V × E)) (v x : V), adoK f v = .ok x → vmx x ≤ vmx v + eszK f
  | [], v, x, h => by rw [adoK] at h; cases h; rw [eszK]; omega
  | (k, e) :: r, v, x, h => by
    rw [adoK] at h
    rw [eszK]
    split at h
    · cases h
    · cases hE : ado e (find v k) with
      | bad b => rw [hE] at h; cases h
      | ok y =>
        rw [hE] at h
        have h1 := ado_vmx e (find v k) y hE
        have h2 := find_vmx v k
        have h3 := put_vmx v k y
        simp only at h
        split at h
        · cases h
        · have h4 := adoK_vmx r (putV v k y) x h
          omega
end

end Go.Proofs.YtkldcjlkeblggaaDoor.Val

/- Plain facts: what is too great. -/
namespace Go.Proofs.YtkldcjlkeblggaaDoor.Val
set_option linter.unusedVariables false

/-- what is left is lowered by what a step takes, if something is left -/
def dec (left : Int) (x : Int) : Int := if 0 ≤ left then x else left
mutual
def gr : V → Int → Int → Int
  | .mk k n t f r l p, left, deep => if deep = 0 ∨ 400 < t.size ∨ 400 < r.size then -1 else grP p (deep - 1) (grL l (deep - 1) (grF f (deep - 1) (left - 1)))
def grF : List (Int × V) → Int → Int → Int
  | [], _, left => left
  | (n, v) :: r, d, left => grF r d (dec left (gr v left d))
def grL : List V → Int → Int → Int
  | [], _, left => left
  | v :: r, d, left => grL r d (dec left (gr v left d))
def grP : List (V × V) → Int → Int → Int
  | [], _, left => left
  | (k, v) :: r, d, left => grP r d (dec (dec left (gr k left d)) (gr v (dec left (gr k left d)) d))
end
theorem dec_le {left x : Int} (h : 0 ≤ left → -1 ≤ x ∧ x ≤ left - 1) (h0 : -1 ≤ left) : -1 ≤ dec left x ∧ dec left x ≤ left := by
  unfold dec
  split
  · have := h ‹_›; omega
  · omega
mutual
theorem gr_le : ∀ (v : V) (left deep : Int), 0 ≤ left → -1 ≤ gr v left deep ∧ gr v left deep ≤ left - 1
  | .mk k n t f r l p, left, deep, h => by
    rw [gr]
    split
    · omega
    · have h1 := grF_le f (deep - 1) (left - 1) (by omega)
      have h2 := grL_le l (deep - 1) _ h1.1
      have h3 := grP_le p (deep - 1) _ h2.1
      omega
theorem grF_le : ∀ (f : List (Int × V)) (d left : Int), -1 ≤ left → -1 ≤ grF f d left ∧ grF f d left ≤ left
  | [], d, left, h => by rw [grF]; omega
  | (n, v) :: r, d, left, h => by
    rw [grF]
    have h1 := dec_le (fun h => gr_le v left d h) h
    have h2 := grF_le r d _ h1.1
    omega
theorem grL_le : ∀ (f : List V) (d left : Int), -1 ≤ left → -1 ≤ grL f d left ∧ grL f d left ≤ left
  | [], d, left, h => by rw [grL]; omega
  | v :: r, d, left, h => by
    rw [grL]
    have h1 := dec_le (fun h => gr_le v left d h) h
    have h2 := grL_le r d _ h1.1
    omega
theorem grP_le : ∀ (f : List (V × V)) (d left : Int), -1 ≤ left → -1 ≤ grP f d left ∧ grP f d left ≤ left
  | [], d, left, h => by rw [grP]; omega
  | (k, v) :: r, d, left, h => by
    rw [grP]
    have h1 := dec_le (fun h => gr_le k left d h) h
    have h2 := dec_le (fun h => gr_le v _ d h) h1.1
    have h3 := grP_le r d _ h2.1
    omega
end
mutual
/-- what isn't too great has no long lists -/
theorem gr_vmx : ∀ (v : V) (left deep : Int), 0 ≤ left → 0 ≤ gr v left deep → (vmx v : Int) + 1 ≤ left - gr v left deep
  | .mk k n t f r l p, left, deep, h, h0 => by
    rw [gr] at h0 ⊢
    split at h0
    · omega
    rename_i hc
    rw [if_neg hc]
    have h1 := grF_le f (deep - 1) (left - 1) (by omega)
    have h2 := grL_le l (deep - 1) _ h1.1
    have h3 := grP_le p (deep - 1) _ h2.1
    have g1 := grF_vmx f (deep - 1) (left - 1) (by omega) (by omega)
    have g2 := grL_vmx l (deep - 1) _ h1.1 (by omega)
    have g3 := grP_vmx p (deep - 1) _ h2.1 h0
    rw [vmx]
    omega
theorem grF_vmx : ∀ (f : List (Int × V)) (d left : Int), -1 ≤ left → 0 ≤ grF f d left → (f.length : Int) ≤ left - grF f d left ∧ (vmxF f : Int) ≤ left - grF f d left
  | [], d, left, h, h0 => by rw [grF] at h0 ⊢; rw [vmxF]; simp
  | (n, v) :: r, d, left, h, h0 => by
    rw [grF] at h0 ⊢
    have h1 := dec_le (fun h => gr_le v left d h) h
    have h2 := grF_le r d _ h1.1
    have h3 := grF_vmx r d _ h1.1 h0
    have hl : 0 ≤ left := by omega
    have e : dec left (gr v left d) = gr v left d := if_pos hl
    rw [e] at h0 h1 h2 h3 ⊢
    have h4 := gr_vmx v left d hl (by omega)
    rw [vmxF]
    simp only [List.length_cons]
    omega
theorem grL_vmx : ∀ (f : List V) (d left : Int), -1 ≤ left → 0 ≤ grL f d left → (f.length : Int) ≤ left - grL f d left ∧ (vmxL f : Int) ≤ left - grL f d left
  | [], d, left, h, h0 => by rw [grL] at h0 ⊢; rw [vmxL]; simp
  | v :: r, d, left, h, h0 => by
    rw [grL] at h0 ⊢
    have h1 := dec_le (fun h => gr_le v left d h) h
    have h2 := grL_le r d _ h1.1
    have h3 := grL_vmx r d _ h1.1 h0
    have hl : 0 ≤ left := by omega
    have e : dec left (gr v left d) = gr v left d := if_pos hl
    rw [e] at h0 h1 h2 h3 ⊢
    have h4 := gr_vmx v left d hl (by omega)
    rw [vmxL]
    simp only [List.length_cons]
    omega
theorem grP_vmx : ∀ (f : List (V × V)) (d left : Int), -1 ≤ left → 0 ≤ grP f d left → (f.length : Int) ≤ left - grP f d left ∧ (vmxP f : Int) ≤ left - grP f d left
  | [], d, left, h, h0 => by rw [grP] at h0 ⊢; rw [vmxP]; simp
  | (k, v) :: r, d, left, h, h0 => by
    rw [grP] at h0 ⊢
    have h1 := dec_le (fun h => gr_le k left d h) h
    have h2 := dec_le (fun h => gr_le v _ d h) h1.1
    have h3 := grP_le r d _ h2.1
    have h4 := grP_vmx r d _ h2.1 h0
    have hl : 0 ≤ left := by omega
    have e : dec left (gr k left d) = gr k left d := if_pos hl
    rw [e] at h0 h1 h2 h3 h4 ⊢
    have hl2 : 0 ≤ gr k left d := by omega
    have e2 : dec (gr k left d) (gr v (gr k left d) d) = gr v (gr k left d) d := if_pos hl2
    rw [e2] at h0 h2 h3 h4 ⊢
    have h5 := gr_vmx k left d hl (by omega)
    have h6 := gr_vmx v _ d hl2 (by omega)
    rw [vmxP]
    simp only [List.length_cons]
    omega
end
def gr60 (v : V) : Bool := decide (gr v 60 30 < 0)

mutual
def ge : E → Int → Int → Int
  | .mk k o n f r ro rn s ks, left, deep => if deep = 0 ∨ 300 < ro.size ∨ 300 < rn.size ∨ gr o 60 30 < 0 ∨ gr n 60 30 < 0 then -1 else match geS s (deep - 1) (geF f (deep - 1) (left - 1)) with
    | none => -1
    | some l => geK ks (deep - 1) l
def geF : List (Int × E) → Int → Int → Int
  | [], _, left => left
  | (n, e) :: r, d, left => geF r d (dec left (ge e left d))
def geS : List (Int × Int × V × E) → Int → Int → Option Int
  | [], d, left => some left
  | (k, c, v, e) :: r, d, left => if 0 ≤ left ∧ (gr v 60 30 < 0 ∨ 2097152 < c) then none else geS r d (dec left (ge e left d))
def geK : List (V × E) → Int → Int → Int
  | [], _, left => left
  | (k, e) :: r, d, left => if 0 ≤ left ∧ gr k 20 30 < 0 then -1 else geK r d (dec left (ge e left d))
end
mutual
theorem ge_le : ∀ (v : E) (left deep : Int), 0 ≤ left → -1 ≤ ge v left deep ∧ ge v left deep ≤ left - 1
  | .mk k o n f r ro rn s ks, left, deep, h => by
    rw [ge]
    split
    · omega
    · have h1 := geF_le f (deep - 1) (left - 1) (by omega)
      have h2 := geS_le s (deep - 1) _ h1.1
      cases hS : geS s (deep - 1) (geF f (deep - 1) (left - 1)) with
      | none => simp only; omega
      | some l =>
        have h3 := h2 l hS
        have h4 := geK_le ks (deep - 1) l h3.1
        simp only; omega
theorem geF_le : ∀ (f : List (Int × E)) (d left : Int), -1 ≤ left → -1 ≤ geF f d left ∧ geF f d left ≤ left
  | [], d, left, h => by rw [geF]; omega
  | (n, v) :: r, d, left, h => by
    rw [geF]
    have h1 := dec_le (fun h => ge_le v left d h) h
    have h2 := geF_le r d _ h1.1
    omega
theorem geS_le : ∀ (f : List (Int × Int × V × E)) (d left : Int), -1 ≤ left → ∀ l, geS f d left = some l → -1 ≤ l ∧ l ≤ left
  | [], d, left, h => by rw [geS]; intro l hl; cases hl; omega
  | (k, c, v, e) :: r, d, left, h => by
    rw [geS]
    split
    · intro l hl; cases hl
    have h1 := dec_le (fun h => ge_le e left d h) h
    intro l hl
    have h2 := geS_le r d _ h1.1 l hl
    omega
theorem geK_le : ∀ (f : List (V × E)) (d left : Int), -1 ≤ left → -1 ≤ geK f d left ∧ geK f d left ≤ left
  | [], d, left, h => by rw [geK]; omega
  | (k, v) :: r, d, left, h => by
    rw [geK]
    split
    · omega
    have h1 := dec_le (fun h => ge_le v left d h) h
    have h3 := geK_le r d _ h1.1
    omega
end
mutual
/-- what isn't too great lengthens no list by much -/
theorem ge_esz : ∀ (v : E) (left deep : Int), 0 ≤ left → 0 ≤ ge v left deep → (esz v : Int) + 62 ≤ 200 * (left - ge v left deep) ∧ esm v
  | .mk k o n f r ro rn s ks, left, deep, h, h0 => by
    rw [ge] at h0 ⊢
    split at h0
    · omega
    rename_i hc
    rw [if_neg hc]
    simp only [not_or] at hc
    have h1 := geF_le f (deep - 1) (left - 1) (by omega)
    cases hS : geS s (deep - 1) (geF f (deep - 1) (left - 1)) with
    | none => rw [hS] at h0; simp only at h0; omega
    | some l =>
    rw [hS] at h0
    simp only at h0 ⊢
    have h2 := geS_le s (deep - 1) _ h1.1 l hS
    have h3 := geK_le ks (deep - 1) l h2.1
    have g1 := geF_esz f (deep - 1) (left - 1) (by omega) (by omega)
    have g2 := geS_esz s (deep - 1) _ h1.1 l hS (by omega)
    have g3 := geK_esz ks (deep - 1) l h2.1 h0
    have o1 := gr_vmx o 60 30 (by omega) (by omega)
    have n1 := gr_vmx n 60 30 (by omega) (by omega)
    rw [esz, esm]
    exact ⟨by omega, ⟨by omega, by omega⟩, g1.2, g2.2, g3.2⟩
theorem geF_esz : ∀ (f : List (Int × E)) (d left : Int), -1 ≤ left → 0 ≤ geF f d left → (eszF f : Int) ≤ 200 * (left - geF f d left) ∧ esmF f
  | [], d, left, h, h0 => by rw [geF] at h0 ⊢; rw [eszF, esmF]; simp
  | (n, v) :: r, d, left, h, h0 => by
    rw [geF] at h0 ⊢
    have h1 := dec_le (fun h => ge_le v left d h) h
    have h2 := geF_le r d _ h1.1
    have h3 := geF_esz r d _ h1.1 h0
    have hl : 0 ≤ left := by omega
    have e : dec left (ge v left d) = ge v left d := if_pos hl
    rw [e] at h0 h1 h2 h3 ⊢
    have h4 := ge_esz v left d hl (by omega)
    rw [eszF, esmF]
    exact ⟨by omega, h4.2, h3.2⟩
theorem geS_esz : ∀ (f : List (Int × Int × V × E)) (d left : Int), -1 ≤ left → ∀ l, geS f d left = some l → 0 ≤ l → (eszS f : Int) ≤ 200 * (left - l) ∧ esmS f
  | [], d, left, h, l, hl, h0 => by
    rw [geS] at hl
    cases hl
    rw [eszS, esmS]
    exact ⟨by omega, trivial⟩
  | (k, c, v, e) :: r, d, left, h, l, hl', h0 => by
    rw [geS] at hl'
    split at hl'
    · cases hl'
    rename_i hc
    have h1 := dec_le (fun h => ge_le e left d h) h
    have h2 := geS_le r d _ h1.1 l hl'
    have h3 := geS_esz r d _ h1.1 l hl' h0
    have hl : 0 ≤ left := by omega
    have e1 : dec left (ge e left d) = ge e left d := if_pos hl
    rw [e1] at h1 h2 h3
    have h4 := ge_esz e left d hl (by omega)
    have hv : ¬ gr v 60 30 < 0 := fun hh => hc ⟨hl, .inl hh⟩
    have v1 := gr_vmx v 60 30 (by omega) (by omega)
    rw [eszS, esmS]
    exact ⟨by omega, h4.2, h3.2⟩
theorem geK_esz : ∀ (f : List (V × E)) (d left : Int), -1 ≤ left → 0 ≤ geK f d left → (eszK f : Int) ≤ 200 * (left - geK f d left) ∧ esmK f
  | [], d, left, h, h0 => by rw [geK] at h0 ⊢; rw [eszK, esmK]; simp
  | (k, v) :: r, d, left, h, h0 => by
    rw [geK] at h0 ⊢
    split at h0
    · omega
    rename_i hc
    rw [if_neg hc]
    have h1 := dec_le (fun h => ge_le v left d h) h
    have h2 := geK_le r d _ h1.1
    have h3 := geK_esz r d _ h1.1 h0
    have hl : 0 ≤ left := by omega
    have e : dec left (ge v left d) = ge v left d := if_pos hl
    rw [e] at h0 h1 h2 h3 ⊢
    have h4 := ge_esz v left d hl (by omega)
    have hv : ¬ gr k 20 30 < 0 := fun hh => hc ⟨hl, hh⟩
    have v1 := gr_vmx k 20 30 (by omega) (by omega)
    rw [eszK, esmK]
    exact ⟨by omega, h4.2, h3.2⟩
end

end Go.Proofs.YtkldcjlkeblggaaDoor.Val
