/- The engine, part 12: regions. The engine, part 13: regions in order, and in. -/
import Derived.Test.YtlmbcoecipbblaaGreatDoorGpB
set_option linter.unusedVariables false
set_option linter.unusedSimpArgs false
namespace Go.Proofs.YtlmbcoecipbblaaGreatDoor
open Go.RowKit
def holds {α : Type} (P : Program) (G : List (Nat × List DV)) (PW : Code → St → (Exit → St → Prop) → Prop) : Tr α → (α → Prop) → Prop
 | .ret x, Q => Q x
 | .fail _, _ => False
 | .ask p k, Q => p () ∧ holds P G PW k Q
 | .br c t e, Q => (c () = true → holds P G PW (t ()) Q) ∧ (c () = false → holds P G PW (e ()) Q)
 | .get es i k, Q => 0 ≤ i () ∧ ∃ e, (es ())[(i ()).toNat]? = some e ∧ holds P G PW (k fun _ => e) Q
 | .run s k, Q => ∃ v, litB v = true ∧ (∀ w, (s ()).run P w = .ok v w) ∧ holds P G PW (k fun _ => .lit v) Q
 | .call f xs H fr k, Q => ∃ r H', PRun P G f xs H fr r H' ∧ holds P G PW (k r H') Q
 | .loop c s k, Q => PW c s (fun e s' => holds P G PW (k e s') Q)
 | .obj _ _, _ => False
section
variable {P : Program} {ti : Tb} {G : List (Nat × List DV)} {PW : Code → St → (Exit → St → Prop) → Prop}
theorem holds_bind {α β : Type} {t : Tr α} {f : α → Tr β} {Q : β → Prop} : holds P G PW (t.bind f) Q = holds P G PW t (fun x => holds P G PW (f x) Q) := by
 induction t with
 | ret x => rfl
 | fail n => rfl
 | ask p k ih => simp only [Tr.bind, holds, ih]
 | br c t e iht ihe => simp only [Tr.bind, holds, iht, ihe]
 | get es i k ih => simp only [Tr.bind, holds, ih]
 | run s k ih => simp only [Tr.bind, holds, ih]
 | call f xs H fr k ih => simp only [Tr.bind, holds, ih]
 | loop c s k ih => simp only [Tr.bind, holds, ih]
 | obj b k ih => rfl
theorem at_holds {α : Type} {m : List (Nat × Ob)} {t : Tr α} : ∀ {l0 : List Nat} {Q : α × List Nat → Prop}, holds P G PW (t.at m l0) Q → ∃ x l, Yl P G (lk m) t l0 l x ∧ Q (x, l) := by
 induction t with
 | ret x => intro l0 Q h; exact ⟨x, l0, .ret, h⟩
 | fail n => intro l0 Q h; exact h.elim
 | ask p k ih => intro l0 Q h; obtain ⟨x, l, h1, h2⟩ := ih h.2; exact ⟨x, l, .ask h.1 h1, h2⟩
 | br c t e iht ihe =>
  intro l0 Q h
  cases hc : c () with
  | true => obtain ⟨x, l, h1, h2⟩ := iht () (h.1 hc); exact ⟨x, l, .brT hc h1, h2⟩
  | false => obtain ⟨x, l, h1, h2⟩ := ihe () (h.2 hc); exact ⟨x, l, .brF hc h1, h2⟩
 | get es i k ih =>
  intro l0 Q h
  obtain ⟨h0, e, he, h⟩ := h
  obtain ⟨x, l, h1, h2⟩ := ih _ h; exact ⟨x, l, .get h0 he h1, h2⟩
 | run s k ih =>
  intro l0 Q h
  obtain ⟨v, h0, he, h⟩ := h
  obtain ⟨x, l, h1, h2⟩ := ih _ h; exact ⟨x, l, .run h0 he h1, h2⟩
 | call f xs H fr k ih =>
  intro l0 Q h
  obtain ⟨r, H', he, h⟩ := h
  obtain ⟨x, l, h1, h2⟩ := ih _ _ h; exact ⟨x, l, .call he h1, h2⟩
 | loop c s k ih => intro l0 Q h; exact h.elim
 | obj b k ih =>
  intro l0 Q h
  unfold Tr.at at h
  split at h
  ·rename_i o ho
   obtain ⟨x, l, h1, h2⟩ := ih o h; exact ⟨x, l, .obj ho h1, h2⟩
  ·exact h.elim
theorem Yl.sub {α : Type} {M : Nat → Option Ob} {t : Tr α} {l l' : List Nat} {x : α} (h : Yl P G M t l l' x) : ∀ b ∈ l, b ∈ l' := by
 induction h with
 | ret => exact fun b hb => hb
 | obj _ _ ih => exact fun b hb => ih b (List.mem_cons_of_mem _ hb)
 | _ => assumption
theorem Yl.local {α : Type} {M M' : Nat → Option Ob} {t : Tr α} {l l' : List Nat} {x : α} (h : Yl P G M t l l' x) : (∀ b ∈ l', M' b = M b) → Yl P G M' t l l' x := by
 induction h with
 | ret => exact fun _ => .ret
 | ask hp _ ih => exact fun hM => .ask hp (ih hM)
 | brT hp _ ih => exact fun hM => .brT hp (ih hM)
 | brF hp _ ih => exact fun hM => .brF hp (ih hM)
 | get h0 h1 _ ih => exact fun hM => .get h0 h1 (ih hM)
 | run h0 h1 _ ih => exact fun hM => .run h0 h1 (ih hM)
 | call h0 _ ih => exact fun hM => .call h0 (ih hM)
 | obj h0 h1 ih => exact fun hM => .obj ((hM _ (h1.sub _ (List.mem_cons_self ..))).trans h0) (ih hM)
structure FS where
 T : Nat → PV
 M : Nat → Option Ob
def St.fs (s : St) : FS := ⟨s.T, lk s.m⟩
structure Rec where
 sk : Bool
 e : Eff
 l : List Nat
def GV (p : PV) (want sk : Bool) : Prop := match p with
 | .tup [] => sk = true
 | .b v => sk = !(v == want)
 | .d c => IsB (c ()) ∧ sk = !(boolOf (c ()) == want)
 | _ => False
def GuardR (ops : Array Oper) (S : FS) (o : Oper) (sk : Bool) : Prop := match o.guard with
 | none => sk = false
 | some (jj, want) => ∃ d, (ops[jj]?).bind (·.dst) = some d ∧ GV (S.T d) want sk
structure Ok (P : Program) (ti : Tb) (G : List (Nat × List DV)) (nx : Nat) (ops : Array Oper) (S : FS) (j : Nat) (o : Oper) (r : Rec) : Prop where
 gd : GuardR ops S o r.sk
 yl : r.sk = false → Yl P G S.M (core' ti (nx + 8 * j) o.op (o.op.operands.toList.map (evT G S.T))) [] r.l r.e
 no : r.sk = true → r.e = ⟨.tup [], []⟩ ∧ r.l = []
def app (S : FS) (o : Oper) (r : Rec) : FS := ⟨fun t => if o.dst = some t then r.e.v else S.T t, ovr S.M r.e.m⟩
inductive Chain (P : Program) (ti : Tb) (G : List (Nat × List DV)) (nx : Nat) (ops : Array Oper) : List Oper → Nat → FS → List Rec → FS → Prop
 | nil {j S} : Chain P ti G nx ops [] j S [] S
 | cons {o rest j S r rs S'} : Ok P ti G nx ops S j o r → Chain P ti G nx ops rest (j + 1) (app S o r) rs S' → Chain P ti G nx ops (o :: rest) j S (r :: rs) S'
theorem lk_over : ∀ (l : List (Nat × Option Ob)) (m : List (Nat × Ob)), lk (over m l) = ovr (lk m) l
 | [], m => rfl
 | (b, o) :: r, m => by
  have hf : ∀ (m : List (Nat × Ob)) (i : Nat), lk (m.filter fun x => x.1 != b) i = if i = b then none else lk m i := fun m i => by
   induction m with
   | nil => simp [lk]
   | cons x m ih =>
    obtain ⟨j, y⟩ := x
    rw [List.filter_cons]
    by_cases hj : j = b
    ·subst hj
     simp only [bne_self_eq_false, if_false, ih, Bool.false_eq_true]
     by_cases hi : i = j
     ·simp [hi]
     ·rw [if_neg hi, if_neg hi, lk, if_neg (fun e => hi e.symm)]
    ·rw [if_pos (by simpa using hj), lk, lk, ih]
     by_cases hji : j = i
     ·subst hji; simp [hj]
     ·rw [if_neg hji, if_neg hji]
  cases o with
  | some o =>
   rw [over, lk_over r, ovr]
   congr 1
   funext i
   rw [lk, hf]
   by_cases hi : i = b
   ·subst hi; simp
   ·rw [if_neg (fun e => hi e.symm), if_neg hi, if_neg hi]
  | none =>
   rw [over, lk_over r, ovr]
   congr 1
   funext i
   exact hf m i
theorem put_fs (s : St) (o : Oper) (r : Rec) : (s.put o.dst r.e).fs = app s.fs o r := by
 unfold St.put St.fs app
 congr 1
 ·funext t
  unfold St.T St.set
  cases hd : o.dst with
  | none => simp
  | some d =>
   show (lk ((d, r.e.v) :: s.t) t).getD .dead = _
   rw [lk]
   by_cases e : d = t
   ·subst e; simp
   ·rw [if_neg e, if_neg (fun h => e (Option.some.inj h))]
 ·exact lk_over r.e.m s.m
theorem put_nx (s : St) (d : Option Tmp) (e : Eff) : (s.put d e).nx = s.nx := by cases d <;> rfl
theorem put_n0 (s : St) (d : Option Tmp) (e : Eff) : (s.put d e).n0 = s.n0 := by cases d <;> rfl
def KaOk (ka : List (Nat × Bool)) (s : St) : Prop := ∀ d v, lk ka d = some v → ∃ c, s.T d = .d c ∧ IsB (c ()) ∧ boolOf (c ()) = v
theorem KaOk.put {ka : List (Nat × Bool)} {s : St} (h : KaOk ka s) (o : Option Tmp) (e : Eff) : KaOk (kaDrop ka o) (s.put o e) := by
 intro d v hd
 cases o with
 | none => exact h d v hd
 | some t =>
  have hf : ∀ (m : List (Nat × Bool)) (i : Nat), lk (m.filter fun x => x.1 != t) i = if i = t then none else lk m i := fun m i => by
   induction m with
   | nil => simp [lk]
   | cons x m ih =>
    obtain ⟨j, y⟩ := x
    rw [List.filter_cons]
    by_cases hj : j = t
    ·subst hj
     simp only [bne_self_eq_false, if_false, ih, Bool.false_eq_true]
     by_cases hi : i = j
     ·simp [hi]
     ·rw [if_neg hi, if_neg hi, lk, if_neg (fun e => hi e.symm)]
    ·rw [if_pos (by simpa using hj), lk, lk, ih]
     by_cases hji : j = i
     ·subst hji; simp [hj]
     ·rw [if_neg hji, if_neg hji]
  unfold kaDrop at hd
  rw [hf] at hd
  split at hd
  ·cases hd
  ·rename_i hne
   obtain ⟨c, h1, h2⟩ := h d v hd
   refine ⟨c, ?_, h2⟩
   show (lk ((t, e.v) :: s.t) d).getD .dead = _
   rw [lk, if_neg (fun e => hne e.symm)]; exact h1
theorem pops_chain {ops : Array Oper} {nt nx : Nat} : ∀ (rest : List Oper) (j : Nat) (s : St) (fp : List FP) (ka : List (Nat × Bool)) {Q : St × List FP → Prop}, s.nx = nx → KaOk ka s → holds P G PW (pops ti G ops nt rest j s fp ka) Q →
  ∃ rs s', Chain P ti G nx ops rest j s.fs rs s'.fs ∧ s'.nx = nx ∧ (∀ o ∈ rest, ∀ d, o.dst = some d → d < nt) ∧ s'.n0 = s.n0 ∧ Q (s', fp.reverse ++ rs.map fun r => ⟨r.l, r.e.m.map (·.1)⟩)
 | [], j, s, fp, ka, Q, hn, hk, h => ⟨[], s, .nil, hn, fun o ho => (by cases ho), rfl, by simpa [pops, holds] using h⟩
 | o :: rest, j, s, fp, ka, Q, hn, hk, h => by
  unfold pops at h
  split at h
  ·rename_i hdst
   have hdst' : ∀ d, o.dst = some d → d < nt := fun d hd => by rw [hd] at hdst; simpa using hdst
   have go : ∀ (ka' : List (Nat × Bool)), KaOk ka' s → GuardR ops s.fs o false → holds P G PW ((pop ti G j o s).bind fun x => pops ti G ops nt rest (j + 1) (s.put o.dst x.1) (⟨x.2, x.1.m.map (·.1)⟩ :: fp) (kaDrop ka' o.dst)) Q → ∃ rs s', Chain P ti G nx ops (o :: rest) j s.fs rs s'.fs ∧ s'.nx = nx ∧ (∀ o' ∈ o :: rest, ∀ d, o'.dst = some d → d < nt) ∧ s'.n0 = s.n0 ∧ Q (s', fp.reverse ++ rs.map fun r => ⟨r.l, r.e.m.map (·.1)⟩) := fun ka' hk' hg h => by
    rw [holds_bind] at h
    obtain ⟨e, l, hy, h⟩ := at_holds h
    have hok : Ok P ti G nx ops s.fs j o ⟨false, e, l⟩ := ⟨hg, fun _ => by rw [← hn]; exact hy, fun h => by cases h⟩
    obtain ⟨rs, s', h1, h2, h3, h5, h4⟩ := pops_chain rest (j + 1) (s.put o.dst e) _ _ ((put_nx s _ _).trans hn) (hk'.put o.dst e) h
    rw [put_fs s o ⟨false, e, l⟩] at h1
    exact ⟨_, s', .cons hok h1, h2, fun o' ho' => by
     rcases List.mem_cons.1 ho' with rfl | ho'
     ·exact hdst'
     ·exact h3 o' ho', h5.trans (put_n0 s _ _), by simpa using h4⟩
   have skip : ∀ (ka' : List (Nat × Bool)), KaOk ka' s → GuardR ops s.fs o true → holds P G PW (pops ti G ops nt rest (j + 1) (s.put o.dst ⟨.tup [], []⟩) (⟨[], []⟩ :: fp) (kaDrop ka' o.dst)) Q → ∃ rs s', Chain P ti G nx ops (o :: rest) j s.fs rs s'.fs ∧ s'.nx = nx ∧ (∀ o' ∈ o :: rest, ∀ d, o'.dst = some d → d < nt) ∧ s'.n0 = s.n0 ∧ Q (s', fp.reverse ++ rs.map fun r => ⟨r.l, r.e.m.map (·.1)⟩) := fun ka' hk' hg h => by
    have hok : Ok P ti G nx ops s.fs j o ⟨true, ⟨.tup [], []⟩, []⟩ := ⟨hg, fun h => (by cases h), fun _ => ⟨rfl, rfl⟩⟩
    obtain ⟨rs, s', h1, h2, h3, h5, h4⟩ := pops_chain rest (j + 1) (s.put o.dst ⟨.tup [], []⟩) _ _ ((put_nx s _ _).trans hn) (hk'.put o.dst _) h
    rw [put_fs s o ⟨true, ⟨.tup [], []⟩, []⟩] at h1
    exact ⟨_, s', .cons hok h1, h2, fun o' ho' => by
     rcases List.mem_cons.1 ho' with rfl | ho'
     ·exact hdst'
     ·exact h3 o' ho', h5.trans (put_n0 s _ _), by simpa using h4⟩
   split at h
   ·rename_i hg
    exact go ka hk (by unfold GuardR; rw [hg]) h
   ·rename_i jj want hg
    split at h
    ·exact h.elim
    ·rename_i d hd
     have mk : ∀ sk, GV (s.T d) want sk → GuardR ops s.fs o sk := fun sk h => by unfold GuardR; rw [hg]; exact ⟨d, hd, h⟩
     split at h
     ·rename_i v hv
      obtain ⟨c, hc1, hc2, hc3⟩ := hk d v hv
      split at h
      ·rename_i e
       exact go ka hk (mk false (by rw [hc1]; exact ⟨hc2, by rw [hc3, e]; simp⟩)) h
      ·rename_i e
       exact skip ka hk (mk true (by rw [hc1]; exact ⟨hc2, by rw [hc3]; simpa using e⟩)) h
     ·split at h
      ·rename_i hT
       exact skip ka hk (mk true (by rw [hT]; rfl)) h
      ·rename_i v hT
       split at h
       ·rename_i e
        exact go ka hk (mk false (by rw [hT]; show false = !(v == want); rw [e]; simp)) h
       ·rename_i e
        exact skip ka hk (mk true (by rw [hT]; show true = !(v == want); simpa using e)) h
      ·rename_i c hT
       obtain ⟨hb, h1, h2⟩ := h
       have ext : ∀ v, boolOf (c ()) = v → KaOk ((d, v) :: ka) s := fun v hv d' v' h => by
        rw [lk] at h
        split at h
        ·rename_i e; cases h; subst e; exact ⟨c, hT, hb, hv⟩
        ·exact hk d' v' h
       cases hc : (boolOf (c ()) == want) with
       | true => exact go _ (ext want (by simpa using hc)) (mk false (by rw [hT]; exact ⟨hb, by rw [hc]; rfl⟩)) (h1 hc)
       | false => exact skip _ (ext (!want) (by cases want <;> cases hx : boolOf (c ()) <;> simp_all)) (mk true (by rw [hT]; exact ⟨hb, by rw [hc]; rfl⟩)) (h2 hc)
      ·exact h.elim
  ·exact h.elim
end
end Go.Proofs.YtlmbcoecipbblaaGreatDoor
namespace Go.Proofs.YtlmbcoecipbblaaGreatDoor
open Go.RowKit
structure Cx where
 F : Nat → Prop
 Xp : Nat → Prop
 w0 : World
 N0 : Nm
 n0 : Nat
 hN : ∀ b, n0 ≤ b → N0.A b = none ∧ ∀ r, N0.V r b = none ∧ N0.V b r = none
def nmD (nx : Nat) (D : Nat → Bool) (b : Nat) : Prop := b < nx ∨ ∃ j, D j = true ∧ nx + 8 * j ≤ b ∧ b < nx + 8 * j + 8
structure RelF (G : List (Nat × List DV)) (C : Cx) (nt nx : Nat) (D : Nat → Bool) (S : FS) (a : Act) (w : World) (N : Nm) : Prop where
 mem : Mem G C.F C.Xp (nmD nx D) C.w0 N S.M w
 tmp : ∀ t, PVR N (rd C.F N S.M w) (S.T t) (a.tmps.getD t undef)
 dfr : a.defers = []
 sz : a.tmps.size = nt
 old : Nm.up (fun b => b < C.n0) C.N0 N
 sub : C.n0 ≤ nx
section
variable {P : Program} {ti : Tb} {G : List (Nat × List DV)} {C : Cx} {nt nx : Nat} {D : Nat → Bool} {S : FS} {a : Act} {w : World} {N : Nm} {ops : Array Oper} {o : Oper} {r : Rec} {j : Nat} {Q : Exit → Act → World → Prop}
theorem RelF.eval (h : RelF G C nt nx D S a w N) (x : Operand) : PVR N (rd C.F N S.M w) (evT G S.T x) (a.eval x) := by
 cases x with
 | tmp t => exact h.tmp t
 | const v =>
  show PVR N _ (constP v) v
  have hd : ∀ v : Value, PVR N (rd C.F N S.M w) .dead v := fun v => by rw [PVR]; trivial
  unfold constP
  cases hv : litB v with
  | true => exact PVR.lit rfl hv
  | false =>
   simp only [cond_false]
   split
   ·rename_i cs
    cases hc : cs.toList.all litB with
    | false => exact hd _
    | true =>
     simp only [cond_true]
     rw [PVR]
     have hl := List.all_eq_true.1 hc
     refine ⟨cs.toList, rfl, ?_, fun u hu => litB_one (hl u hu)⟩
     generalize cs.toList = l at hl
     induction l with
     | nil => simp [PVRs]
     | cons c r ih => rw [List.map_cons, PVRs]; exact ⟨c, r, rfl, PVR.lit rfl (hl c (List.mem_cons_self ..)), ih (fun u hu => hl u (List.mem_cons_of_mem _ hu))⟩
   ·exact hd _
 | global g =>
  show PVR N _ (match lk G g with | some cs => .ept (fun _ => cs) 0 | none => .dead) _
  cases hg : lk G g with
  | none => rw [PVR]; trivial
  | some cs =>
   have hm : (g, cs) ∈ G := by
    have : ∀ (l : List (Nat × List DV)), lk l g = some cs → (g, cs) ∈ l := fun l => by
     induction l with
     | nil => intro h; cases h
     | cons x l ih =>
      intro h
      obtain ⟨k, y⟩ := x
      rw [lk] at h
      split at h
      ·rename_i e; cases h; subst e; exact List.mem_cons_self ..
      ·exact List.mem_cons_of_mem _ (ih h)
    exact this G hg
   obtain ⟨cur, t, fr, ws, q1, q2, q3, _⟩ := h.mem.glob g cs hm
   show PVR N _ (.ept (fun _ => cs) 0) _
   rw [PVR]
   exact ⟨g, 0, cur, t, fr, ws, rfl, q1, fun i u hu => by rw [Nat.zero_add]; exact q2 i u hu, q3⟩
 | func f =>
  show PVR N _ (.fn (.func f) [] []) (.func (.func f) #[] #[])
  rw [PVR]; exact ⟨[], [], rfl, by rw [PVRs], by rw [PVRs]⟩
theorem RelF.vals (h : RelF G C nt nx D S a w N) : ∀ l : List Operand, PVRs N (rd C.F N S.M w) (l.map (evT G S.T)) (l.map a.eval)
 | [] => by simp [PVRs]
 | x :: r => by
  rw [List.map_cons, List.map_cons, PVRs]
  exact ⟨_, _, rfl, h.eval x, h.vals r⟩
theorem put_get (a : Act) (d : Option Tmp) (v : Value) (t : Nat) (hd : ∀ x, d = some x → x < a.tmps.size) : (a.put d v).tmps.getD t undef = if d = some t then v else a.tmps.getD t undef := by
 cases d with
 | none => simp [Act.put]
 | some x =>
  have := hd x rfl
  simp only [Act.put, Array.getD_eq_getD_getElem?, Option.some.injEq]
  rw [Array.getElem?_setIfInBounds]
  by_cases e : x = t
  ·subst e; simp [this]
  ·simp [e]
theorem put_size (a : Act) (d : Option Tmp) (v : Value) : (a.put d v).tmps.size = a.tmps.size := by cases d <;> simp [Act.put]
theorem put_dfr (a : Act) (d : Option Tmp) (v : Value) : (a.put d v).defers = a.defers := by cases d <;> rfl
theorem RelF.wanted (h : RelF G C nt nx D S a w N) {sk : Bool} (hg : GuardR ops S o sk) : Region.wanted o (yielded ops a.tmps) = !sk := by
 unfold GuardR at hg
 unfold Region.wanted
 split at hg
 ·rename_i e; rw [e, hg]; rfl
 ·rename_i jj want e
  obtain ⟨d, hd, hv⟩ := hg
  rw [e]
  have hy : ∀ v, a.tmps.getD d undef = v → (yielded ops a.tmps jj = match v with | .bool b => some b | _ => none) := fun v hv => by
   unfold yielded
   rw [hd]
   show (match a.tmps[d]? with | some (.bool b) => some b | _ => none) = _
   rw [Array.getD_eq_getD_getElem?] at hv
   cases hq : a.tmps[d]? with
   | none => rw [hq] at hv; subst hv; rfl
   | some u => rw [hq] at hv; have : u = v := hv; subst this; cases u <;> rfl
  have ht := h.tmp d
  dsimp only
  unfold GV at hv
  split at hv
  ·rename_i hT
   rw [hT, PVR] at ht
   obtain ⟨ws, e1, e2⟩ := ht
   rw [PVRs] at e2; subst e2
   rw [hy _ e1, hv]; rfl
  ·rename_i v hT
   rw [hT, PVR] at ht
   rw [hy _ ht, hv]
   cases v <;> cases want <;> rfl
  ·rename_i c hT
   rw [hT] at ht
   have e1 := ht.dBool hv.1
   rw [hy _ e1, hv.2]
   cases boolOf (c ()) <;> cases want <;> rfl
  ·exact hv.elim
def addD (D : Nat → Bool) (j i : Nat) : Bool := if i = j then true else D i
theorem names_mem {i b : Nat} : b ∈ names i ↔ i ≤ b ∧ b < i + 8 := by
 simp only [names, List.mem_cons, List.not_mem_nil, or_false]; omega
theorem step_ok (hti : TyOk P ti) (hok : Ok P ti G nx ops S j o r) (hD : D j = false) (hdst : ∀ d, o.dst = some d → d < nt) (h : RelF G C nt nx D S a w N) {K : Act → World → Prop} (hK : ∀ a' w' N', RelF G C nt nx (addD D j) (app S o r) a' w' N' → K a' w') :
  if Region.wanted o (yielded ops a.tmps) then o.wp P a w K Q else K (a.put o.dst undef) w := by
 rw [h.wanted hok.gd]
 have hmono : ∀ b, nmD nx D b → nmD nx (addD D j) b := fun b hb => by
  rcases hb with hb | ⟨i, hi, hb⟩
  ·exact .inl hb
  ·exact .inr ⟨i, by unfold addD; split; rfl; exact hi, hb⟩
 have fin : ∀ v w' N', Nm.up (nmD nx D) N N' → Mem G C.F C.Xp (nmD nx (addD D j)) C.w0 N' (ovr S.M r.e.m) w' → FLe (rd C.F N S.M w) (rd C.F N' (ovr S.M r.e.m) w') → PVR N' (rd C.F N' (ovr S.M r.e.m) w') r.e.v v → K (a.put o.dst v) w' := fun v w' N' hN hM hl hv => by
  refine hK _ _ N' ⟨hM, fun t => ?_, by rw [put_dfr]; exact h.dfr, by rw [put_size]; exact h.sz, h.old.trans hN (fun b hb => .inl (Nat.lt_of_lt_of_le hb h.sub)), h.sub⟩
  rw [put_get a o.dst v t (fun x hx => by rw [h.sz]; exact hdst x hx)]
  show PVR N' _ (if o.dst = some t then r.e.v else S.T t) _
  split
  ·exact hv
  ·exact PVR.mono hN.le hl _ _ (h.tmp t)
 cases hs : r.sk with
 | true =>
  obtain ⟨he, _⟩ := hok.no hs
  rw [if_neg (by decide)]
  refine fin undef w N (Nm.up.refl _ N) ?_ ?_ ?_
  ·rw [he]; exact h.mem.more hmono
  ·rw [he]; exact FLe.refl _
  ·rw [he]; exact undef_tup
 | false =>
  rw [if_pos (by decide)]
  refine core_ok' hti o.op _ C.F C.Xp (nmD nx D) (nmD nx (addD D j)) C.w0 w N S.M o a K Q r.e [] r.l rfl h.mem (h.vals _) hmono (fun b hb => ?_) (hok.yl hs) fin
  rw [names_mem] at hb
  refine ⟨fun hn => ?_, .inr ⟨j, by unfold addD; rw [if_pos rfl], hb⟩⟩
  rcases hn with hn | ⟨i, hi, h1, h2⟩
  ·omega
  ·have : i = j := by omega
   subst this; rw [hD] at hi; cases hi
def upto (k i : Nat) : Bool := decide (i < k)
theorem addD_upto (k : Nat) : addD (upto k) k = upto (k + 1) := by
 funext i
 unfold addD upto
 split
 ·rename_i e; subst e; simp
 ·simp only [decide_eq_decide]; omega
theorem chain_seq (hti : TyOk P ti) {S' : FS} : ∀ {rest : List Oper} {j : Nat} {S : FS} {rs : List Rec} {a : Act} {w : World} {N : Nm}, Chain P ti G nx ops rest j S rs S' → (∀ o ∈ rest, ∀ d, o.dst = some d → d < nt) → RelF G C nt nx (upto j) S a w N →
  (∀ a' w' N', RelF G C nt nx (upto (j + rest.length)) S' a' w' N' → Q .normal a' w') → wpList P ops Q rest a w := by
 intro rest j S rs a w N hc
 induction hc generalizing a w N with
 | nil => intro _ h hQ; exact hQ a w N h
 | @cons o rest j S r rs S' hok hc ih =>
  intro hd h hQ
  have h1 := step_ok (Q := Q) (K := wpList P ops Q rest) hti hok (by unfold upto; simp) (fun d hd' => hd o (List.mem_cons_self ..) d hd') h (fun a' w' N' h' => by
   rw [addD_upto] at h'
   refine ih (fun o' ho' => hd o' (List.mem_cons_of_mem _ ho')) h' (fun a'' w'' N'' h'' => hQ a'' w'' N'' ?_)
   rw [List.length_cons]
   rwa [show j + 1 + rest.length = j + (rest.length + 1) by omega] at h'')
  rw [wpList]
  split
  ·rename_i hw; rw [if_pos hw] at h1; exact .inl h1
  ·rename_i hw; rw [if_neg hw] at h1; exact h1
end
end Go.Proofs.YtlmbcoecipbblaaGreatDoor
namespace Go.Proofs.YtlmbcoecipbblaaGreatDoor
open Go.RowKit
inductive Lc where
 | t (n : Nat)
 | m (n : Nat)
def FS.at (S : FS) : Lc → PV ⊕ Option Ob
 | .t n => .inl (S.T n)
 | .m n => .inr (S.M n)
def wr (x : Oper × Rec) : Lc → Prop
 | .t n => x.1.dst = some n
 | .m b => b ∈ x.2.e.m.map (·.1)
theorem ovr_not : ∀ (l : List (Nat × Option Ob)) (M : Nat → Option Ob) (b : Nat), ¬ b ∈ l.map (·.1) → ovr M l b = M b
 | [], M, b, _ => rfl
 | (c, o) :: r, M, b, h => by
  rw [List.map_cons, List.mem_cons, not_or] at h
  rw [ovr, ovr_not r _ b h.2, if_neg h.1]
theorem ovr_mem : ∀ (l : List (Nat × Option Ob)) (M M' : Nat → Option Ob) (b : Nat), b ∈ l.map (·.1) ∨ M b = M' b → ovr M l b = ovr M' l b
 | [], M, M', b, h => by
  rcases h with h | h
  ·cases h
  ·exact h
 | (c, o) :: r, M, M', b, h => by
  rw [ovr, ovr]
  refine ovr_mem r _ _ b ?_
  rcases h with h | h
  ·rw [List.map_cons, List.mem_cons] at h
   rcases h with h | h
   ·right; rw [if_pos h, if_pos h]
   ·exact .inl h
  ·right; rw [h]
theorem app_not {x : Oper × Rec} {lc : Lc} (h : ¬ wr x lc) (S : FS) : (app S x.1 x.2).at lc = S.at lc := by
 cases lc with
 | t n =>
  have h' : ¬ x.1.dst = some n := h
  show Sum.inl (if x.1.dst = some n then _ else _) = _; rw [if_neg h']; rfl
 | m b => show Sum.inr (ovr S.M x.2.e.m b) = _; rw [ovr_not _ _ _ h]; rfl
theorem app_wr {x : Oper × Rec} {lc : Lc} (S S' : FS) (h : wr x lc ∨ S.at lc = S'.at lc) : (app S x.1 x.2).at lc = (app S' x.1 x.2).at lc := by
 cases lc with
 | t n =>
  show Sum.inl (if x.1.dst = some n then _ else _) = Sum.inl (if x.1.dst = some n then _ else _)
  rcases h with h | h
  ·have h' : x.1.dst = some n := h
   rw [if_pos h', if_pos h']
  ·have : S.T n = S'.T n := Sum.inl.inj h
   rw [this]
 | m b =>
  show Sum.inr (ovr S.M x.2.e.m b) = Sum.inr (ovr S'.M x.2.e.m b)
  rw [ovr_mem _ S.M S'.M b (by
   rcases h with h | h
   ·exact .inl h
   ·exact .inr (Sum.inr.inj h))]
def runD (D : Nat → Bool) : List (Oper × Rec) → Nat → FS → FS
 | [], _, S => S
 | x :: r, k, S => runD D r (k + 1) (if D k then app S x.1 x.2 else S)
theorem runD_at {D D' : Nat → Bool} {lc : Lc} : ∀ (L : List (Oper × Rec)) (k : Nat) (S S' : FS), (∀ i x, L[i]? = some x → wr x lc → D (k + i) = D' (k + i)) → S.at lc = S'.at lc → (runD D L k S).at lc = (runD D' L k S').at lc
 | [], k, S, S', _, hs => hs
 | x :: r, k, S, S', h, hs => by
  rw [runD, runD]
  refine runD_at r (k + 1) _ _ (fun i y hy hw => by have := h (i + 1) y hy hw; rwa [show k + (i + 1) = k + 1 + i by omega] at this) ?_
  by_cases hw : wr x lc
  ·have := h 0 x rfl hw
   rw [Nat.add_zero] at this
   rw [← this]
   split
   ·exact app_wr S S' (.inl hw)
   ·exact hs
  ·have h1 : (if D k then app S x.1 x.2 else S).at lc = S.at lc := by split; exact app_not hw S; rfl
   have h2 : (if D' k then app S' x.1 x.2 else S').at lc = S'.at lc := by split; exact app_not hw S'; rfl
   rw [h1, h2]; exact hs
theorem runD_none {D : Nat → Bool} : ∀ (L : List (Oper × Rec)) (k : Nat) (S : FS), (∀ i, k ≤ i → D i = false) → runD D L k S = S
 | [], k, S, _ => rfl
 | x :: r, k, S, h => by
  rw [runD, h k (Nat.le_refl _)]
  exact runD_none r (k + 1) S (fun i hi => h i (by omega))
theorem runD_last {D : Nat → Bool} {lc : Lc} {x : Oper × Rec} (X : FS) : ∀ (L : List (Oper × Rec)) (k i : Nat) (S : FS), L[i]? = some x → wr x lc → D (k + i) = true → (∀ j y, i < j → L[j]? = some y → wr y lc → D (k + j) = false) → (runD D L k S).at lc = (app X x.1 x.2).at lc
 | [], k, i, S, hx, _, _, _ => by cases hx
 | y :: r, k, 0, S, hx, hw, hD, h => by
  cases hx
  rw [runD, if_pos (by simpa using hD)]
  have h1 : (runD D r (k + 1) (app S x.1 x.2)).at lc = (runD (fun _ => false) r (k + 1) (app S x.1 x.2)).at lc :=
   runD_at r (k + 1) _ _ (fun i y hy hw' => by have := h (i + 1) y (by omega) hy hw'; rwa [show k + (i + 1) = k + 1 + i by omega] at this) rfl
  rw [h1, runD_none _ _ _ (fun _ _ => rfl)]
  exact app_wr S X (.inl hw)
 | y :: r, k, i + 1, S, hx, hw, hD, h => by
  rw [runD]
  exact runD_last X r (k + 1) i _ hx hw (by rwa [show k + 1 + i = k + (i + 1) by omega]) (fun j z hj hz hw' => by have := h (j + 1) z (by omega) hz hw'; rwa [show k + (j + 1) = k + 1 + j by omega] at this)
section
variable {P : Program} {ti : Tb} {G : List (Nat × List DV)} {C : Cx} {nt nx : Nat} {S : FS} {ops : Array Oper} {Q : Exit → Act → World → Prop}
theorem chain_ok {S' : FS} {rest : List Oper} {j : Nat} {rs : List Rec} (h : Chain P ti G nx ops rest j S rs S') : rs.length = rest.length ∧ runD (fun _ => true) (rest.zip rs) j S = S' ∧
  ∀ i o r, rest[i]? = some o → rs[i]? = some r → Ok P ti G nx ops (runD (upto (j + i)) (rest.zip rs) j S) (j + i) o r := by
 induction h with
 | nil => exact ⟨rfl, rfl, fun i o r h => by cases h⟩
 | @cons o rest j S r rs S' hok hc ih =>
  obtain ⟨h1, h2, h3⟩ := ih
  refine ⟨by simp [h1], h2, fun i o' r' ho hr => ?_⟩
  cases i with
  | zero =>
   cases ho; cases hr
   rw [Nat.add_zero]
   have : runD (upto j) ((o :: rest).zip (r :: rs)) j S = S := runD_none _ _ _ (fun i hi => by unfold upto; simp; omega)
   rw [this]; exact hok
  | succ i =>
   have := h3 i o' r' ho hr
   rw [show j + 1 + i = j + (i + 1) by omega] at this
   rw [List.zip_cons_cons, runD, if_pos (by unfold upto; simp)]
   exact this
theorem ok_local {S S' : FS} {j : Nat} {o : Oper} {r : Rec} (h : Ok P ti G nx ops S j o r) (hT : ∀ t ∈ readsT ops o, S'.T t = S.T t) (hM : ∀ b ∈ r.l, S'.M b = S.M b) : Ok P ti G nx ops S' j o r := by
 have hv : ∀ l : List Operand, (∀ t ∈ tmpsOf l, S'.T t = S.T t) → l.map (evT G S'.T) = l.map (evT G S.T) := fun l => by
  induction l with
  | nil => intro _; rfl
  | cons x l ih =>
   intro h
   cases x with
   | tmp t =>
    rw [List.map_cons, List.map_cons, ih (fun t ht => h t (List.mem_cons_of_mem _ ht))]
    congr 1
    exact h t (List.mem_cons_self ..)
   | const v => rw [List.map_cons, List.map_cons, ih h]; rfl
   | global g => rw [List.map_cons, List.map_cons, ih h]; rfl
   | func f => rw [List.map_cons, List.map_cons, ih h]; rfl
 refine ⟨?_, fun hs => ?_, h.no⟩
 ·have hg := h.gd
  unfold GuardR at hg ⊢
  split
  ·rename_i e; rw [e] at hg; exact hg
  ·rename_i jj want e
   rw [e] at hg
   obtain ⟨d, hd, hv⟩ := hg
   refine ⟨d, hd, ?_⟩
   rw [hT d (by unfold readsT guardT; rw [e]; simp [hd])]; exact hv
 ·rw [hv _ (fun t ht => hT t (List.mem_append_right _ ht))]
  exact (h.yl hs).local hM
def Cl (L : List Oper) (D : Nat → Bool) : Prop := ∀ j o, L[j]? = some o → D j = true → ∀ e ∈ o.after.toList, Region.binds .any e = true → D e.on = true
theorem fold_bits (acc : List Nat) : ∀ (l : List Edge) (s i : Nat), (l.foldl (fun s e => if Region.binds .any e then s ||| 2 ^ e.on ||| acc.getD e.on 0 else s) s).testBit i = true → s.testBit i = true ∨ ∃ e ∈ l, Region.binds .any e = true ∧ (i = e.on ∨ (acc.getD e.on 0).testBit i = true)
 | [], s, i, h => .inl h
 | e :: r, s, i, h => by
  rw [List.foldl_cons] at h
  rcases fold_bits acc r _ i h with h | ⟨e', he, hb⟩
  ·split at h
   ·rename_i hb
    rw [Nat.testBit_or, Nat.testBit_or, Bool.or_eq_true, Bool.or_eq_true, Nat.testBit_two_pow] at h
    rcases h with (h | h) | h
    ·exact .inl h
    ·exact .inr ⟨e, List.mem_cons_self .., hb, .inl ((of_decide_eq_true h).symm)⟩
    ·exact .inr ⟨e, List.mem_cons_self .., hb, .inr h⟩
   ·exact .inl h
  ·exact .inr ⟨e', List.mem_cons_of_mem _ he, hb⟩
theorem bef_ok {L : List Oper} : ∀ (rest : List Oper) (acc : List Nat), (∀ k, rest[k]? = L[acc.length + k]?) → (∀ j i, (acc.getD j 0).testBit i = true → ∀ D, Cl L D → D j = true → D i = true) → ∀ j i, ((befL rest acc).getD j 0).testBit i = true → ∀ D, Cl L D → D j = true → D i = true
 | [], acc, _, h, j, i => h j i
 | o :: r, acc, hr, h, j, i => by
  rw [befL]
  refine bef_ok r _ (fun k => ?_) (fun j i hb D hD hj => ?_) j i
  ·have := hr (k + 1)
   rw [List.length_append, List.length_singleton, show acc.length + 1 + k = acc.length + (k + 1) by omega, ← this]; rfl
  ·rw [List.getD_eq_getElem?_getD] at hb
   by_cases hlt : j < acc.length
   ·rw [List.getElem?_append_left hlt, ← List.getD_eq_getElem?_getD] at hb
    exact h j i hb D hD hj
   ·rw [List.getElem?_append_right (by omega)] at hb
    by_cases he : j = acc.length
    ·subst he
     rw [Nat.sub_self] at hb
     have ho : L[acc.length]? = some o := by have := hr 0; rw [Nat.add_zero] at this; exact this.symm
     rcases fold_bits acc _ 0 i hb with h0 | ⟨e, he, hbd, h0⟩
     ·rw [Nat.zero_testBit] at h0; cases h0
     ·have := hD _ o ho hj e he hbd
      rcases h0 with h0 | h0
      ·rw [h0]; exact this
      ·exact h _ i h0 D hD this
    ·have : ([o.after.toList.foldl (fun s e => if Region.binds .any e then s ||| 2 ^ e.on ||| acc.getD e.on 0 else s) 0])[j - acc.length]? = none := List.getElem?_eq_none (by simp; omega)
     rw [this] at hb
     simp at hb
theorem ordRow_ok {oj : Oper} {fj : FP} {bits : Nat} : ∀ (l : List (Oper × FP)) (k : Nat), ordRow ops oj fj bits k l = true → ∀ i x, l[i]? = some x → bits.testBit (k + i) = true ∨ cfl ops x.1 oj x.2 fj = false
 | [], k, _, i, x, h => by cases h
 | (o, f) :: r, k, h, 0, x, hx => by
  cases hx
  rw [ordRow, Bool.and_eq_true, Bool.or_eq_true] at h
  rcases h.1 with h | h
  ·exact .inl h
  ·exact .inr (by simpa using h)
 | (o, f) :: r, k, h, i + 1, x, hx => by
  rw [ordRow, Bool.and_eq_true] at h
  have := ordRow_ok r (k + 1) h.2 i x hx
  rwa [show k + 1 + i = k + (i + 1) by omega] at this
theorem ordAll_ok {l : List (Oper × FP)} {bs : List Nat} : ∀ (r : List (Oper × FP)) (j : Nat), (∀ k, r[k]? = l[j + k]?) → ordAll ops l bs j r = true → ∀ k x, r[k]? = some x → (∀ i y, i < j + k → l[i]? = some y → (bs.getD (j + k) 0).testBit i = true ∨ cfl ops y.1 x.1 y.2 x.2 = false) ∧ ∀ e ∈ x.1.after.toList, Region.binds .any e = true → e.on < j + k
 | [], j, _, _, k, x, h => by cases h
 | (o, f) :: r, j, hr, h, k, x, hx => by
  rw [ordAll, Bool.and_eq_true, Bool.and_eq_true] at h
  cases k with
  | zero =>
   cases hx
   refine ⟨fun i y hi hy => ?_, fun e he hb => ?_⟩
   ·have := ordRow_ok (l.take j) 0 h.1.1 i y (by rw [List.getElem?_take, if_pos (by omega)]; exact hy)
    rw [Nat.zero_add] at this; exact this
   ·have := List.all_eq_true.1 h.1.2 e he
    rw [hb] at this
    simpa using this
  | succ k =>
   have := ordAll_ok r (j + 1) (fun k => by have := hr (k + 1); rw [show j + 1 + k = j + (k + 1) by omega, ← this]; rfl) h.2 k x hx
   rwa [show j + 1 + k = j + (k + 1) by omega] at this
theorem meets_no {l l' : List Nat} (h : meets l l' = false) {x : Nat} (hx : x ∈ l) : ¬ x ∈ l' := fun hx' => by
 unfold meets at h
 have := List.any_eq_false.1 h x hx
 simp [hx'] at this
structure OrdR (ops : Array Oper) (rs : List Rec) : Prop where
 len : rs.length = ops.toList.length
 pair : ∀ i j oi oj ri rj, i < j → ops.toList[i]? = some oi → ops.toList[j]? = some oj → rs[i]? = some ri → rs[j]? = some rj → (∀ D, Cl ops.toList D → D j = true → D i = true) ∨ cfl ops oi oj ⟨ri.l, ri.e.m.map (·.1)⟩ ⟨rj.l, rj.e.m.map (·.1)⟩ = false
 back : ∀ j o, ops.toList[j]? = some o → ∀ e ∈ o.after.toList, Region.binds .any e = true → e.on < j
theorem ordOk_spec {rs : List Rec} (h : ordOk ops (rs.map fun r => ⟨r.l, r.e.m.map (·.1)⟩) = true) : OrdR ops rs := by
 unfold ordOk at h
 rw [Bool.and_eq_true] at h
 have hlen : rs.length = ops.toList.length := by simpa using h.1
 have hz : ∀ (k : Nat) (o : Oper) (r : Rec), ops.toList[k]? = some o → rs[k]? = some r → (ops.toList.zip (rs.map fun r => (⟨r.l, r.e.m.map (·.1)⟩ : FP)))[k]? = some (o, ⟨r.l, r.e.m.map (·.1)⟩) := fun k o r ho hr => by
  rw [List.getElem?_zip_eq_some]
  exact ⟨ho, by rw [List.getElem?_map, hr]; rfl⟩
 have key := ordAll_ok _ 0 (fun k => by rw [Nat.zero_add]) h.2
 have hbef := bef_ok (L := ops.toList) ops.toList [] (fun k => by simp) (fun j i hb => by simp at hb)
 refine ⟨hlen, fun i j oi oj ri rj hij hi hj hri hrj => ?_, fun j o ho e he hb => ?_⟩
 ·have h1 := (key j _ (hz j oj rj hj hrj)).1 i _ (by omega) (hz i oi ri hi hri)
  rw [Nat.zero_add] at h1
  rcases h1 with h1 | h1
  ·exact .inl (fun D hD hDj => hbef j i h1 D hD hDj)
  ·exact .inr h1
 ·have hlt : j < rs.length := by rw [hlen]; exact (List.getElem?_eq_some_iff.1 ho).1
  have := (key j _ (hz j o _ ho (List.getElem?_eq_getElem hlt))).2 e he hb
  rwa [Nat.zero_add] at this
theorem cfl_no {oi oj : Oper} {fi fj : FP} (h : cfl ops oi oj fi fj = false) : (∀ d, oi.dst = some d → oj.dst ≠ some d ∧ ¬ d ∈ readsT ops oj) ∧ (∀ d, oj.dst = some d → ¬ d ∈ readsT ops oi) ∧ (∀ b ∈ fi.w, ¬ b ∈ fj.w ∧ ¬ b ∈ fj.r) ∧ ∀ b ∈ fj.w, ¬ b ∈ fi.r := by
 unfold cfl at h
 simp only [Bool.or_eq_false_iff] at h
 obtain ⟨⟨⟨h1, h2⟩, h3⟩, h4⟩ := h
 refine ⟨fun d hd => ?_, fun d hd => meets_no h2 (by rw [hd]; simp), fun b hb => ?_, fun b hb => meets_no h4 hb⟩
 ·have := meets_no h1 (x := d) (by rw [hd]; simp)
  rw [List.mem_append, not_or] at this
  exact ⟨fun e => this.1 (by rw [e]; simp), this.2⟩
 ·have := meets_no h3 hb
  rwa [List.mem_append, not_or] at this
def rdL (ops : Array Oper) (o : Oper) (r : Rec) : Lc → Prop
 | .t n => n ∈ readsT ops o
 | .m b => b ∈ r.l
theorem conflict {oi oj : Oper} {ri rj : Rec} (h : cfl ops oi oj ⟨ri.l, ri.e.m.map (·.1)⟩ ⟨rj.l, rj.e.m.map (·.1)⟩ = false) (lc : Lc) : ¬ (wr (oi, ri) lc ∧ wr (oj, rj) lc) ∧ ¬ (wr (oi, ri) lc ∧ rdL ops oj rj lc) ∧ ¬ (wr (oj, rj) lc ∧ rdL ops oi ri lc) := by
 obtain ⟨h1, h2, h3, h4⟩ := cfl_no h
 cases lc with
 | t n => exact ⟨fun ⟨a, b⟩ => (h1 n a).1 b, fun ⟨a, b⟩ => (h1 n a).2 b, fun ⟨a, b⟩ => h2 n a b⟩
 | m n => exact ⟨fun ⟨a, b⟩ => (h3 n a).1 b, fun ⟨a, b⟩ => (h3 n a).2 b, fun ⟨a, b⟩ => h4 n a b⟩
theorem fs_ext {S S' : FS} (h : ∀ lc, S.at lc = S'.at lc) : S = S' := by
 obtain ⟨T, M⟩ := S; obtain ⟨T', M'⟩ := S'
 congr 1
 ·funext t; exact Sum.inl.inj (h (.t t))
 ·funext b; exact Sum.inr.inj (h (.m b))
theorem ready_ok {rs : List Rec} (hO : OrdR ops rs) {D : Nat → Bool} (hD : Cl ops.toList D) {i : Nat} {o : Oper} {r : Rec} (ho : ops.toList[i]? = some o) (hr : rs[i]? = some r) (hi : D i = false) (hdep : ∀ e ∈ o.after.toList, Region.binds .any e = true → D e.on = true)
  (hok : Ok P ti G nx ops (runD (upto i) (ops.toList.zip rs) 0 S) i o r) : Ok P ti G nx ops (runD D (ops.toList.zip rs) 0 S) i o r ∧ runD (addD D i) (ops.toList.zip rs) 0 S = app (runD D (ops.toList.zip rs) 0 S) o r := by
 have hadd : Cl ops.toList (addD D i) := fun j oj hj hDj e he hb => by
  unfold addD at hDj ⊢
  split
  ·rfl
  ·split at hDj
   ·rename_i e1; subst e1
    rw [ho] at hj; cases hj
    exact hdep e he hb
   ·exact hD j oj hj hDj e he hb
 have hz : ∀ (k : Nat) (x : Oper × Rec), (ops.toList.zip rs)[k]? = some x → ops.toList[k]? = some x.1 ∧ rs[k]? = some x.2 := fun k x h => by
  obtain ⟨x1, x2⟩ := x
  rwa [List.getElem?_zip_eq_some] at h
 have before : ∀ j, j < i → ∀ x, (ops.toList.zip rs)[j]? = some x → ∀ lc, (wr x lc ∧ wr (o, r) lc ∨ wr x lc ∧ rdL ops o r lc) → D j = true := fun j hj x hx lc hw => by
  obtain ⟨h1, h2⟩ := hz j x hx
  rcases hO.pair j i x.1 o x.2 r hj h1 ho h2 hr with h | h
  ·have := h (addD D i) hadd (by unfold addD; simp)
   unfold addD at this
   rwa [if_neg (by omega)] at this
  ·have := conflict h lc
   rcases hw with hw | hw
   ·exact absurd hw this.1
   ·exact absurd hw this.2.1
 have after : ∀ j, i < j → ∀ x, (ops.toList.zip rs)[j]? = some x → ∀ lc, (wr (o, r) lc ∧ wr x lc ∨ wr x lc ∧ rdL ops o r lc) → D j = false := fun j hj x hx lc hw => by
  obtain ⟨h1, h2⟩ := hz j x hx
  rcases hO.pair i j o x.1 r x.2 hj ho h1 hr h2 with h | h
  ·cases hd : D j with
   | false => rfl
   | true => rw [h D hD hd] at hi; cases hi
  ·have := conflict h lc
   rcases hw with hw | hw
   ·exact absurd hw this.1
   ·exact absurd hw this.2.2
 have hself : ∀ x, (ops.toList.zip rs)[i]? = some x → x = (o, r) := fun x hx => by
  obtain ⟨h1, h2⟩ := hz i x hx
  rw [ho] at h1; rw [hr] at h2
  obtain ⟨x1, x2⟩ := x
  cases h1; cases h2; rfl
 refine ⟨ok_local hok (fun t ht => ?_) (fun b hb => ?_), fs_ext fun lc => ?_⟩
 ·have : (runD D (ops.toList.zip rs) 0 S).at (.t t) = (runD (upto i) (ops.toList.zip rs) 0 S).at (.t t) := runD_at _ 0 S S (fun j x hx hw => by
   rw [Nat.zero_add]
   unfold upto
   rcases Nat.lt_trichotomy j i with h | h | h
   ·rw [before j h x hx (.t t) (.inr ⟨hw, ht⟩)]; simp [h]
   ·subst h; rw [hi]; simp
   ·rw [after j h x hx (.t t) (.inr ⟨hw, ht⟩)]; simp; omega) rfl
  exact Sum.inl.inj this
 ·have : (runD D (ops.toList.zip rs) 0 S).at (.m b) = (runD (upto i) (ops.toList.zip rs) 0 S).at (.m b) := runD_at _ 0 S S (fun j x hx hw => by
   rw [Nat.zero_add]
   unfold upto
   rcases Nat.lt_trichotomy j i with h | h | h
   ·rw [before j h x hx (.m b) (.inr ⟨hw, hb⟩)]; simp [h]
   ·subst h; rw [hi]; simp
   ·rw [after j h x hx (.m b) (.inr ⟨hw, hb⟩)]; simp; omega) rfl
  exact Sum.inr.inj this
 ·by_cases hw : wr (o, r) lc
  ·refine runD_last _ _ 0 i S (List.getElem?_zip_eq_some.2 ⟨ho, hr⟩) hw (by unfold addD; simp) (fun j y hj hy hwy => ?_)
   rw [Nat.zero_add]; unfold addD; rw [if_neg (by omega)]
   exact after j hj y hy lc (.inl ⟨hw, hwy⟩)
  ·rw [show app (runD D (ops.toList.zip rs) 0 S) o r = app (runD D (ops.toList.zip rs) 0 S) (o, r).1 (o, r).2 from rfl, app_not hw]
   refine runD_at _ 0 S S (fun j x hx hwx => ?_) rfl
   rw [Nat.zero_add]; unfold addD
   rw [if_neg]
   rintro rfl
   rw [hself x hx] at hwx; exact hw hwx
theorem drawn_any (hti : TyOk P ti) {rs : List Rec} {S' : FS} (hC : Chain P ti G nx ops ops.toList 0 S rs S') (hO : OrdR ops rs) (hdst : ∀ o ∈ ops.toList, ∀ d, o.dst = some d → d < nt) (hQ : ∀ a w N D, (∀ j, D j = true → j < ops.size) → RelF G C nt nx D S' a w N → Q .normal a w) :
  ∀ (fuel : Nat) (U : List Nat) (listed : Array Bool) (a : Act) (w : World) (N : Nm), U.Nodup → (∀ i, i ∈ U ↔ i < ops.size ∧ listed.getD i false = false) → U.length = fuel → listed.size = ops.size → Cl ops.toList (fun i => listed.getD i false) → RelF G C nt nx (fun i => listed.getD i false) (runD (fun i => listed.getD i false) (ops.toList.zip rs) 0 S) a w N → wpAny P .any ops Q fuel listed a w := by
 obtain ⟨c1, c2, c3⟩ := chain_ok hC
 have hgd : ∀ (listed : Array Bool) (i : Nat), listed.size = ops.size → i < ops.size → listed.getD i true = listed.getD i false := fun l i hs hi => by
  simp [Array.getD_eq_getD_getElem?, hs, hi]
 have done : ∀ (listed : Array Bool) (a : Act) (w : World) (N : Nm), listed.size = ops.size → Region.ready .any ops listed = [] → RelF G C nt nx (fun i => listed.getD i false) (runD (fun i => listed.getD i false) (ops.toList.zip rs) 0 S) a w N → Q .normal a w := fun listed a w N hs hr h => by
  have all : ∀ j, j < ops.size → listed.getD j false = true := fun j => by
   induction j using Nat.strongRecOn with
   | ind j ih =>
    intro hj
    cases hd : listed.getD j false with
    | true => rfl
    | false =>
     have hop : ops[j]? = some ops[j] := Array.getElem?_eq_getElem hj
     have : j ∈ Region.ready .any ops listed := mem_ready.2 ⟨by rw [hgd listed j hs hj]; exact hd, ops[j], hop, fun e he hb => by
      have hlt := hO.back j ops[j] (by rw [Array.getElem?_toList]; exact hop) e (by simpa using he) hb
      exact ih e.on hlt (by omega)⟩
     rw [hr] at this; cases this
  have e : runD (fun i => listed.getD i false) (ops.toList.zip rs) 0 S = S' := by
   rw [← c2]
   refine fs_ext fun lc => runD_at _ 0 S S (fun j x hx _ => ?_) rfl
   rw [Nat.zero_add]
   have : j < ops.size := by
    have := (List.getElem?_eq_some_iff.1 hx).1
    rw [List.length_zip] at this
    have h2 : ops.toList.length = ops.size := by simp
    omega
   exact all j this
  rw [e] at h
  refine hQ a w N _ (fun j hj => ?_) h
  rcases Nat.lt_or_ge j ops.size with h' | h'
  ·exact h'
  ·simp [Array.getD_eq_getD_getElem?, hs, h'] at hj
 intro fuel
 induction fuel with
 | zero =>
  intro U listed a w N hU hm hl hs hcl h
  have hU0 : U = [] := List.eq_nil_of_length_eq_zero hl
  have hr : Region.ready .any ops listed = [] := by
   cases hq : Region.ready .any ops listed with
   | nil => rfl
   | cons i l =>
    obtain ⟨h1, o, ho, _⟩ := mem_ready.1 (show i ∈ Region.ready .any ops listed by rw [hq]; exact List.mem_cons_self ..)
    have hlt := (Array.getElem?_eq_some_iff.1 ho).1
    have := (hm i).2 ⟨hlt, by rw [← hgd listed i hs hlt]; exact h1⟩
    rw [hU0] at this; cases this
  exact ⟨hr, done listed a w N hs hr h⟩
 | succ fuel ih =>
  intro U listed a w N hU hm hl hs hcl h
  refine ⟨fun hr => done listed a w N hs hr h, fun i hi => ?_⟩
  obtain ⟨h1, o, ho, hdep⟩ := mem_ready.1 hi
  have hlt := (Array.getElem?_eq_some_iff.1 ho).1
  have hil : listed.getD i false = false := by rw [← hgd listed i hs hlt]; exact h1
  have ho' : ops.toList[i]? = some o := by rw [Array.getElem?_toList]; exact ho
  have hrl : i < rs.length := by rw [hO.len]; simpa using hlt
  have hr' : rs[i]? = some rs[i] := List.getElem?_eq_getElem hrl
  have hdep' : ∀ e ∈ o.after.toList, Region.binds .any e = true → listed.getD e.on false = true := fun e he hb => hdep e (by simpa using he) hb
  have hok := c3 i o _ ho' hr'
  rw [Nat.zero_add] at hok
  obtain ⟨k1, k2⟩ := ready_ok hO hcl ho' hr' hil hdep' hok
  have hset : (fun j => (listed.setIfInBounds i true).getD j false) = addD (fun j => listed.getD j false) i := by
   funext j
   unfold addD
   simp only [Array.getD_eq_getD_getElem?, Array.getElem?_setIfInBounds]
   by_cases e : i = j
   ·subst e; simp [hs, hlt]
   ·rw [if_neg e, if_neg (fun h => e h.symm)]
  unfold wpOp
  rw [ho]
  have hs1 := step_ok (Q := Q) (K := wpAny P .any ops Q fuel (listed.setIfInBounds i true)) hti k1 hil (fun d hd => hdst o (List.mem_of_getElem? ho') d hd) h (fun a' w' N' h' => by
   refine ih (U.erase i) _ a' w' N' (hU.erase i) (fun j => ?_) ?_ (by simpa using hs) ?_ ?_
   ·rw [hU.mem_erase_iff, hm j]
    have := congrFun hset j
    rw [this]
    unfold addD
    by_cases e : j = i
    ·subst e; simp
    ·rw [if_neg e]; simp [e]
   ·rw [List.length_erase_of_mem ((hm i).2 ⟨hlt, hil⟩), hl]; rfl
   ·rw [hset]
    intro j oj hj hDj e he hb
    unfold addD at hDj ⊢
    split
    ·rfl
    ·split at hDj
     ·rename_i e1; subst e1
      rw [ho'] at hj; cases hj
      exact hdep' e he hb
     ·exact hcl j oj hj hDj e he hb
   ·rw [hset, k2]; exact h')
  dsimp only
  split
  ·rename_i hw; rw [if_pos hw] at hs1; exact .inl hs1
  ·rename_i hw; rw [if_neg hw] at hs1; exact hs1
end
end Go.Proofs.YtlmbcoecipbblaaGreatDoor
namespace Go.Proofs.YtlmbcoecipbblaaGreatDoor
open Go.RowKit
def Rel (G : List (Nat × List DV)) (C : Cx) (nt : Nat) (s : St) (a : Act) (w : World) : Prop := C.n0 = s.n0 ∧ ∃ N, RelF G C nt s.nx (fun _ => false) s.fs a w N
def PWp (P : Program) (G : List (Nat × List DV)) (nt : Nat) (c : Code) (s : St) (Q : Exit → St → Prop) : Prop :=
 ∀ (C : Cx) (a : Act) (w : World), Rel G C nt s a w → c.wp P (fun e a' w' => ∃ s', Rel G C nt s' a' w' ∧ Q e s') a w
def PWl (P : Program) (G : List (Nat × List DV)) (nt : Nat) (c : Code) (s : St) (Q : Exit → St → Prop) : Prop := PWp P G nt (.loop c) s Q
section
variable {P : Program} {ti : Tb} {G : List (Nat × List DV)} {C : Cx} {nt : Nat}
theorem RelF.cong {nx nx' : Nat} {D D' : Nat → Bool} {S : FS} {a : Act} {w : World} {N : Nm} (h : RelF G C nt nx D S a w N) (hb : ∀ b, nmD nx D b → nmD nx' D' b) (hx : nx ≤ nx') : RelF G C nt nx' D' S a w N :=
 ⟨h.mem.more hb, h.tmp, h.dfr, h.sz, h.old, Nat.le_trans h.sub hx⟩
theorem RelF.drew {nx : Nat} {D : Nat → Bool} {S : FS} {a : Act} {w : World} {N : Nm} (h : RelF G C nt nx D S a w N) : RelF G C nt nx D S a w.drew N :=
 ⟨⟨⟨h.mem.ext.os, h.mem.ext.tape, h.mem.ext.output, h.mem.ext.size, h.mem.ext.block⟩, h.mem.flt, fun b ob hb => (h.mem.obj b ob hb).keep (Nm.le.refl N) (FLe.refl _) (fun _ _ => rfl), h.mem.apart, h.mem.at_, h.mem.dom, h.mem.glob⟩, h.tmp, h.dfr, h.sz, h.old, h.sub⟩
theorem PWp.mono {c : Code} {s : St} {Q Q' : Exit → St → Prop} (h : PWp P G nt c s Q) (hq : ∀ e s', Q e s' → Q' e s') : PWp P G nt c s Q' := fun C a w hr =>
 wp_mono (h C a w hr) (fun e a' w' ⟨s', h1, h2⟩ => ⟨s', h1, hq e s' h2⟩)
theorem ev_ok (hti : TyOk P ti) (hm : P.follows .mixedOrders = true) : ∀ (c : Code) (s : St) (Q : Exit × St → Prop), holds P G (PWl P G nt) (ev ti G nt c s) Q → PWp P G nt c s (fun e s' => Q (e, s')) := by
 intro c
 induction c with
 | skip => intro s Q h C a w hr; exact wp_skip ⟨s, hr, h⟩
 | label l => intro s Q h C a w hr; exact wp_label ⟨s, hr, h⟩
 | ret => intro s Q h C a w hr; exact wp_ret ⟨s, hr, h⟩
 | exit id => intro s Q h C a w hr; exact wp_exit ⟨s, hr, h⟩
 | goto l => intro s Q h C a w hr; exact wp_goto ⟨s, hr, h⟩
 | region id ops dr =>
  intro s Q h C a w ⟨hn0, N, hr⟩
  unfold ev at h
  rw [holds_bind] at h
  obtain ⟨rs, s', h1, h2, h3, h5, h4⟩ := pops_chain ops.toList 0 s [] [] rfl (fun d v hd => by cases hd) h
  have fin : ∀ a' w' N' D, (∀ j, D j = true → j < ops.size) → RelF G C nt s.nx D s'.fs a' w' N' → Q (.normal, s'.next ops.size) → ∃ s'', Rel G C nt s'' a' w' ∧ Q (.normal, s'') := fun a' w' N' D hD hr' hq => by
   refine ⟨s'.next ops.size, ⟨hn0.trans h5.symm, N', ?_⟩, hq⟩
   have hx : (s'.next ops.size).nx = s.nx + 8 * ops.size := by show s'.nx + 8 * ops.size = _; rw [h2]
   rw [hx]
   refine hr'.cong (fun b hb => .inl ?_) (by omega)
   rcases hb with hb | ⟨j, hj, _, hb⟩
   ·omega
   ·have := hD j hj; omega
  cases dr with
  | false =>
   refine wp_region_list (chain_seq hti h1 h3 (hr.cong (fun b hb => ?_) (Nat.le_refl _)) (fun a' w' N' hr' => fin a' w' N' _ (fun j hj => ?_) hr' h4))
   ·rcases hb with hb | ⟨j, hj, _⟩
    ·exact .inl hb
    ·cases hj
   ·unfold upto at hj; simpa using hj
  | true =>
   obtain ⟨ho, h4⟩ := h4
   refine wp_region_any hm (drawn_any hti h1 (ordOk_spec (by simpa using ho)) h3 (fun a' w' N' D hD hr' => fin a' w' N' D hD hr' h4) ops.size (List.range ops.size) _ a _ N List.nodup_range (fun i => ?_) (by simp) (by simp) (fun j o _ hj => ?_) ?_)
   ·simp [Array.getD_eq_getD_getElem?, Array.getElem?_replicate]
    intro hi; simp [hi]
   ·simp [Array.getD_eq_getD_getElem?, Array.getElem?_replicate] at hj
    split at hj <;> cases hj
   ·have e : (fun i => (Array.replicate ops.size false).getD i false) = fun _ => false := by
     funext i
     simp [Array.getD_eq_getD_getElem?, Array.getElem?_replicate]
     split <;> rfl
    rw [e, runD_none _ _ _ (fun _ _ => rfl)]
    exact hr.drew
 | seq x y ihx ihy =>
  intro s Q h C a w hr
  unfold ev at h
  rw [holds_bind] at h
  refine wp_seq (wp_mono (ihx s _ h C a w hr) (fun e a' w' ⟨s', h1, h2⟩ => ?_))
  cases e with
  | normal => exact ihy s' Q h2 C a' w' h1
  | _ => exact ⟨s', h1, h2⟩
 | cond c x y ihx ihy =>
  intro s Q h C a w ⟨hn0, N, hr⟩
  unfold ev at h
  have hc := hr.eval c
  have hT : s.fs.T = s.T := rfl
  rw [hT] at hc
  split at h
  ·rename_i e
   rw [e, PVR] at hc
   exact wp_cond_true hc (ihx s Q h C a w ⟨hn0, N, hr⟩)
  ·rename_i e
   rw [e, PVR] at hc
   exact wp_cond_false hc (ihy s Q h C a w ⟨hn0, N, hr⟩)
  ·rename_i b e
   rw [e] at hc
   obtain ⟨hb, h1, h2⟩ := h
   exact wp_cond_split (hc.dBool hb) (fun ht => ihx s Q (h1 ht) C a w ⟨hn0, N, hr⟩) (fun hf => ihy s Q (h2 hf) C a w ⟨hn0, N, hr⟩)
  ·exact h.elim
 | block id c ih =>
  intro s Q h C a w hr
  unfold ev at h
  rw [holds_bind] at h
  refine wp_block (wp_mono (ih s _ h C a w hr) (fun e a' w' ⟨s', h1, h2⟩ => ?_))
  cases e with
  | exit j =>
   show if j = id then _ else _
   dsimp only at h2
   split at h2
   ·rename_i e; rw [if_pos e]; exact ⟨s', h1, h2⟩
   ·rename_i e; rw [if_neg e]; exact ⟨s', h1, h2⟩
  | _ => exact ⟨s', h1, h2⟩
 | loop c ih => intro s Q h; unfold ev at h; exact h
 | _ => intro s Q h; exact h.elim
theorem pwp_loop {ι : Type} {c : Code} {s : St} {Q : Exit → St → Prop} (I : ι → St) (μ : ι → Nat) (x0 : ι) (h0 : ∀ C a w, Rel G C nt s a w → Rel G C nt (I x0) a w)
  (round : ∀ x, PWp P G nt c (I x) (fun e s' => match e with | .normal => ∃ y, μ y < μ x ∧ ∀ C a w, Rel G C nt s' a w → Rel G C nt (I y) a w | e => Q e s')) : PWp P G nt (.loop c) s Q := by
 intro C a w hr
 refine wp_loop_ghost (fun n a w => ∃ x, μ x = n ∧ Rel G C nt (I x) a w) (μ x0) ⟨x0, rfl, h0 C a w hr⟩ (fun n a w ⟨x, hx, hI⟩ => ?_)
 refine wp_mono (round x C a w hI) (fun e a' w' ⟨s', h1, h2⟩ => ?_)
 cases e with
 | normal =>
  obtain ⟨y, hy, hw⟩ := h2
  exact ⟨μ y, by rw [← hx]; exact hy, y, rfl, hw C a' w' h1⟩
 | _ => exact ⟨s', h1, h2⟩
end
end Go.Proofs.YtlmbcoecipbblaaGreatDoor
namespace Go.Proofs.YtlmbcoecipbblaaGreatDoor
open Go.RowKit
def PV.leaf : PV → Bool
 | .agg _ | .tup _ | .fn .. | .ifp .. => false
 | _ => true
mutual
def PV.tr (f : PV → PV) : PV → PV
 | .agg cs => .agg (trL f cs)
 | .tup cs => .tup (trL f cs)
 | .fn g xs ys => .fn g (trL f xs) (trL f ys)
 | .ifp t x => match x.tr f with
  | .d y => .d fun _ => .ifc t (y ())
  | z => .ifp t z
 | p => f p
def trL (f : PV → PV) : List PV → List PV
 | [] => []
 | p :: r => p.tr f :: trL f r
end
section
variable {N N' : Nm} {h h' : Frag} {f : PV → PV}
mutual
theorem tr_ok (hf : ∀ p v, p.leaf = true → PVR N h p v → PVR N' h' (f p) v) : ∀ (p : PV) (v : Value), PVR N h p v → PVR N' h' (p.tr f) v
 | .agg cs, v, hp => by
  rw [PVR] at hp; obtain ⟨ws, rfl, h1, h2⟩ := hp
  rw [PV.tr, PVR]; exact ⟨ws, rfl, trL_ok hf cs ws h1, h2⟩
 | .tup cs, v, hp => by
  rw [PVR] at hp; obtain ⟨ws, rfl, h1⟩ := hp
  rw [PV.tr, PVR]; exact ⟨ws, rfl, trL_ok hf cs ws h1⟩
 | .fn g xs ys, v, hp => by
  rw [PVR] at hp; obtain ⟨vs, ws, rfl, h1, h2⟩ := hp
  rw [PV.tr, PVR]; exact ⟨vs, ws, rfl, trL_ok hf xs vs h1, trL_ok hf ys ws h2⟩
 | .ifp t x, v, hp => by
  rw [PVR] at hp; obtain ⟨u, rfl, h1⟩ := hp
  have h2 := tr_ok hf x u h1
  rw [PV.tr]
  split
  ·rename_i y e
   rw [e, PVR] at h2
   rw [PVR, DR]; exact ⟨u, rfl, h2⟩
  ·rw [PVR]; exact ⟨u, rfl, h2⟩
 | .d x, v, hp => by
  rw [PV.tr]
  ·exact hf _ v rfl hp
  all_goals (intros; rename_i e; cases e)
 | .ptr b o, v, hp => by
  rw [PV.tr]
  ·exact hf _ v rfl hp
  all_goals (intros; rename_i e; cases e)
 | .own r k, v, hp => by
  rw [PV.tr]
  ·exact hf _ v rfl hp
  all_goals (intros; rename_i e; cases e)
 | .ept cs o, v, hp => by
  rw [PV.tr]
  ·exact hf _ v rfl hp
  all_goals (intros; rename_i e; cases e)
 | .rpt r k n i o, v, hp => by
  rw [PV.tr]
  ·exact hf _ v rfl hp
  all_goals (intros; rename_i e; cases e)
 | .b u, v, hp => by
  rw [PV.tr]
  ·exact hf _ v rfl hp
  all_goals (intros; rename_i e; cases e)
 | .dead, v, hp => by
  rw [PV.tr]
  ·exact hf _ v rfl hp
  all_goals (intros; rename_i e; cases e)
theorem trL_ok (hf : ∀ p v, p.leaf = true → PVR N h p v → PVR N' h' (f p) v) : ∀ (p : List PV) (v : List Value), PVRs N h p v → PVRs N' h' (trL f p) v
 | [], v, hp => by rw [PVRs] at hp; rw [trL, PVRs]; exact hp
 | p :: r, v, hp => by
  rw [PVRs] at hp
  obtain ⟨u, us, rfl, h1, h2⟩ := hp
  rw [trL, PVRs]; exact ⟨u, us, rfl, tr_ok hf p u h1, trL_ok hf r us h2⟩
end
end
def allDV (cs : List PV) : Option (List (Unit → DV)) := allD (cs.map unb)
def tau (φ : Nat → Option Nat) (fz : Nat → Option Ob) : PV → PV
 | .ptr b o => match φ b with
  | some b' => .ptr b' o
  | none => match fz b with
   | some (.blk cs) => if o = 0 then match allDV cs with
     | some l => .d fun _ => .pt (l.map fun x => x ())
     | none => .dead
    else .dead
   | _ => .dead
 | .own r k => match φ r with
  | some r' => match φ k with
   | some k' => .own r' k'
   | none => .dead
  | none => match fz r with
   | some (.row k' _ _ es) => if k = k' then .d fun _ => .sl (es ()) else .dead
   | _ => .dead
 | .rpt r k n i o => match φ r, φ k with
  | some r', some k' => .rpt r' k' n i o
  | _, _ => .dead
 | p => p
def trO (φ : Nat → Option Nat) (fz : Nat → Option Ob) : Ob → Option Ob
 | .blk cs => some (.blk (trL (tau φ fz) cs))
 | .row k t n es => match φ k with
  | some k' => some (.row k' t n es)
  | none => none
def Nm.via (N : Nm) (ψ : Nat → Option Nat) : Nm := ⟨fun x => (ψ x).bind N.A, fun r k => (ψ r).bind fun a => (ψ k).bind fun b => N.V a b⟩
section
variable {G : List (Nat × List DV)} {F Xp dm dm' : Nat → Prop} {w0 w : World} {N : Nm} {M M' : Nat → Option Ob}
theorem canon_mem (H : Mem G F Xp dm w0 N M w) {φ ψ : Nat → Option Nat} (hφ : ∀ b b', φ b = some b' → ψ b' = some b) {fz : Nat → Option Ob} (hfz : ∀ b ob, fz b = some ob → M b = some ob ∧ φ b = none)
  (hM : ∀ b' ob', M' b' = some ob' → ∃ b ob, φ b = some b' ∧ M b = some ob ∧ trO φ fz ob = some ob') (hdm : ∀ b, ¬ dm' b → ψ b = none) :
  Mem G F Xp dm' w0 (N.via ψ) M' w ∧ FLe (rd F N M w) (rd F (N.via ψ) M' w) ∧ ∀ p v, PVR N (rd F N M w) p v → PVR (N.via ψ) (rd F (N.via ψ) M' w) (p.tr (tau φ fz)) v := by
 have hA : ∀ b b', φ b = some b' → (N.via ψ).A b' = N.A b := fun b b' h => by show (ψ b').bind N.A = _; rw [hφ b b' h]; rfl
 have hV : ∀ r r' k k', φ r = some r' → φ k = some k' → (N.via ψ).V r' k' = N.V r k := fun r r' k k' h1 h2 => by
  show ((ψ r').bind fun a => (ψ k').bind fun b => N.V a b) = _
  rw [hφ r r' h1, hφ k k' h2]; rfl
 have hadr : ∀ b b' ob ob', φ b = some b' → trO φ fz ob = some ob' → adr (N.via ψ) b' ob' = adr N b ob := fun b b' ob ob' h1 h2 => by
  cases ob with
  | blk cs => cases h2; exact hA b b' h1
  | row k t n es =>
   rw [trO] at h2
   split at h2
   ·rename_i k' hk
    cases h2
    show ((N.via ψ).V b' k').bind _ = (N.V b k).bind _
    rw [hV b b' k k' h1 hk]
   ·cases h2
 have hinj : ∀ b c b', φ b = some b' → φ c = some b' → b = c := fun b c b' h1 h2 => Option.some.inj ((hφ b b' h1).symm.trans (hφ c b' h2))
 have hheld : ∀ g, held F (N.via ψ) M' g → held F N M g := fun g hg => by
  rcases hg with hg | ⟨b', ob', h1, h2⟩
  ·exact .inl hg
  ·obtain ⟨b, ob, h3, h4, h5⟩ := hM b' ob' h1
   exact .inr ⟨b, ob, h4, by rw [← hadr b b' ob ob' h3 h5]; exact h2⟩
 have hl : FLe (rd F N M w) (rd F (N.via ψ) M' w) := fun k o hk => by
  obtain ⟨h1, h2⟩ := fragX_some hk
  exact fragX_of (fun hX => h1 (hheld k hX)) h2
 /- what is given up lies outside of what is held -/
 have hout : ∀ b ob g, fz b = some ob → adr N b ob = some g → ¬ held F (N.via ψ) M' g := fun b ob g h1 h2 hg => by
  obtain ⟨hb, hn⟩ := hfz b ob h1
  rcases hg with hg | ⟨c', oc', h3, h4⟩
  ·exact (H.at_ b ob g hb h2).1 hg
  ·obtain ⟨c, oc, h5, h6, h7⟩ := hM c' oc' h3
   rw [hadr c c' oc oc' h5 h7] at h4
   have := H.apart b c ob oc g hb h6 h2 h4
   subst this
   rw [hn] at h5; cases h5
 have htau : ∀ p v, p.leaf = true → PVR N (rd F N M w) p v → PVR (N.via ψ) (rd F (N.via ψ) M' w) (tau φ fz p) v := fun p v hlf hp => by
  have dead : PVR (N.via ψ) (rd F (N.via ψ) M' w) .dead v := by rw [PVR]; trivial
  unfold tau
  split
  ·rename_i b o
   rw [PVR] at hp
   obtain ⟨g, h1, rfl⟩ := hp
   split
   ·rename_i b' hb
    rw [PVR]; exact ⟨g, (hA b b' hb).trans h1, rfl⟩
   ·split
    ·rename_i cs hz
     split
     ·rename_i ho
      subst ho
      split
      ·rename_i l hcs
       obtain ⟨hb, hn⟩ := hfz b _ hz
       obtain ⟨g', ws, q1, ⟨t, q2⟩, q3, q4⟩ := H.obj b _ hb
       rw [h1] at q1; cases q1
       rw [PVR, DR]
       refine ⟨g, ws.toArray, t, (0, 0), rfl, fragX_of (hout b _ g hz h1) q2, ?_⟩
       have q5 := unb_ok q3
       rw [allD_pv hcs] at q5
       exact DRs.mono hl _ _ q5.to_ds
      ·exact dead
     ·exact dead
    ·exact dead
  ·rename_i r k
   rw [PVR] at hp
   split
   ·rename_i r' hr
    split
    ·rename_i k' hk
     rw [PVR]; exact ⟨(hV r r' k k' hr hk).trans hp.1, hp.2⟩
    ·exact dead
   ·split
    ·rename_i k' t n es hz
     split
     ·rename_i e
      subst e
      obtain ⟨hb, hn⟩ := hfz r _ hz
      obtain ⟨v', ess, hV', how, hds, hes⟩ := H.obj r _ hb
      have hV0 := hV'
      rw [hp.1] at hV'; cases hV'
      obtain ⟨ad, cap, e1, q1, q2, q3, q4⟩ := HRow.of_owns (E := []) how (by cases hb : v.ownBlock with
       | none => exact .inl rfl
       | some k => exact .inr (by simp))
      rw [fragE_nil] at q1
      rw [PVR, DR]
      refine ⟨n, ess, ⟨ad, cap, by rw [hds.len]; exact e1, by rw [hds.len]; exact q2, q3, q4, ?_, hes⟩, DRss.mono hl _ _ hds⟩
      rcases q1 with q1 | ⟨b, off, cur, t', fr, rfl, hb', hcc⟩
      ·exact .inl q1
      ·refine .inr ⟨b, off, cur, t', fr, rfl, fragX_of ?_ hb', hcc⟩
       subst e1
       exact hout r _ b hz (by rw [adr, hV0]; rfl)
     ·exact dead
    ·exact dead
  ·rename_i r k n i o
   rw [PVR] at hp
   obtain ⟨g, len, cap, h1, rfl⟩ := hp
   split
   ·rename_i r' k' hr hk
    rw [PVR]; exact ⟨g, len, cap, (hV r r' k k' hr hk).trans h1, rfl⟩
   ·exact dead
  ·rename_i h1 h2 h3
   cases p with
   | d x => rw [PVR] at hp ⊢; exact DR.mono hl _ _ hp
   | ptr b o => exact absurd rfl (h1 b o)
   | own r k => exact absurd rfl (h2 r k)
   | rpt r k n i o => exact absurd rfl (h3 r k n i o)
   | ept cs o =>
    rw [PVR] at hp ⊢
    obtain ⟨g, off, cur, t, fr, ws, q1, q2, q3, q4⟩ := hp
    exact ⟨g, off, cur, t, fr, ws, q1, hl _ _ q2, q3, DRs.mono hl _ _ q4⟩
   | agg cs => cases hlf
   | tup cs => cases hlf
   | fn f xs ys => cases hlf
   | ifp t x => cases hlf
   | b u => rw [PVR] at hp ⊢; exact hp
   | dead => exact dead
 refine ⟨⟨H.ext, H.flt, fun b' ob' hb' => ?_, fun b' c' ob' oc' g h1 h2 h3 h4 => ?_, fun b' ob' g h1 h2 => ?_, fun b hb => ?_, fun g cs hg => (H.glob g cs hg).mono hl⟩, hl, fun p v => tr_ok htau p v⟩
 ·obtain ⟨b, ob, h3, h4, h5⟩ := hM b' ob' hb'
  have ho := H.obj b ob h4
  cases ob with
  | blk cs =>
   cases h5
   obtain ⟨g, ws, q1, q2, q3, q4⟩ := ho
   exact ⟨g, ws, (hA b b' h3).trans q1, q2, trL_ok htau cs ws q3, q4⟩
  | row k t n es =>
   rw [trO] at h5
   split at h5
   ·rename_i k' hk
    cases h5
    obtain ⟨v, ess, q1, q2, q3, q4⟩ := ho
    exact ⟨v, ess, (hV b b' k k' h3 hk).trans q1, q2, DRss.mono hl _ _ q3, q4⟩
   ·cases h5
 ·obtain ⟨b, ob, q1, q2, q3⟩ := hM b' ob' h1
  obtain ⟨c, oc, q4, q5, q6⟩ := hM c' oc' h2
  rw [hadr b b' ob ob' q1 q3] at h3
  rw [hadr c c' oc oc' q4 q6] at h4
  have := H.apart b c ob oc g q2 q5 h3 h4
  subst this
  rw [q1] at q4; exact Option.some.inj q4
 ·obtain ⟨b, ob, q1, q2, q3⟩ := hM b' ob' h1
  rw [hadr b b' ob ob' q1 q3] at h2
  exact H.at_ b ob g q2 h2
 ·have := hdm b hb
  refine ⟨by show (ψ b).bind N.A = none; rw [this]; rfl, fun r => ⟨?_, ?_⟩⟩
  ·show ((ψ r).bind fun a => (ψ b).bind fun c => N.V a c) = none
   rw [this]; cases ψ r <;> rfl
  ·show ((ψ b).bind fun a => (ψ r).bind fun c => N.V a c) = none
   rw [this]; rfl
end
end Go.Proofs.YtlmbcoecipbblaaGreatDoor
namespace Go.Proofs.YtlmbcoecipbblaaGreatDoor
open Go.RowKit
def LeD (x y : DV) : Prop := ∀ h v, DR h x v → DR h y v
theorem LeD.of {x y : DV} (h : x = y) : LeD x y := fun _ _ hx => h ▸ hx
theorem LeD.nil : LeD (.lit (.slice none 0 0)) (.sl []) := fun h v hx => by
 rw [DR] at hx
 rw [hx.1, DR]; exact ⟨0, [], FlatC.nil 0 h, by rw [DRss]⟩
def LeR (a b : List (List DV)) : Prop := ∀ h x, DRss h a x → DRss h b x
theorem LeR.app {a b c d : List (List DV)} (h1 : LeR a b) (h2 : LeR c d) : LeR (a ++ c) (b ++ d) := fun h x hx => by
 have h3 : ∀ (a : List (List DV)) (x : List (List Value)), DRss h (a ++ c) x → ∃ u v, x = u ++ v ∧ DRss h a u ∧ DRss h c v := fun a => by
  induction a with
  | nil => intro x hx; exact ⟨[], x, rfl, by rw [DRss], hx⟩
  | cons e r ih =>
   intro x hx
   rw [List.cons_append, DRss] at hx
   obtain ⟨v, vs, rfl, k1, k2⟩ := hx
   obtain ⟨u, w, rfl, k3, k4⟩ := ih vs k2
   exact ⟨v :: u, w, rfl, by rw [DRss]; exact ⟨v, u, rfl, k1, k3⟩, k4⟩
 obtain ⟨u, v, rfl, k1, k2⟩ := h3 a x hx
 exact (h1 h u k1).app (h2 h v k2)
def LeC : List DV → List DV → Prop
 | [], [] => True
 | x :: a, y :: b => LeD x y ∧ LeC a b
 | _, _ => False
theorem LeC.ok {h : Frag} : ∀ {a b : List DV} {x : List Value}, LeC a b → DRs h a x → DRs h b x
 | [], [], x, _, hx => hx
 | c :: a, d :: b, x, hl, hx => by
  rw [DRs] at hx ⊢
  obtain ⟨v, vs, rfl, h1, h2⟩ := hx
  exact ⟨v, vs, rfl, hl.1 _ _ h1, LeC.ok hl.2 h2⟩
theorem LeR.one {a b : List DV} (hl : LeC a b) : LeR [a] [b] := fun h x hx => by
 rw [DRss] at hx ⊢
 obtain ⟨v, vs, rfl, h1, h2⟩ := hx
 exact ⟨v, vs, rfl, hl.ok h1, h2⟩
theorem LeD.sl {a b : List (List DV)} (hl : LeR a b) : LeD (.sl a) (.sl b) := fun h x hx => by
 rw [DR] at hx ⊢
 obtain ⟨s, ess, h1, h2⟩ := hx
 exact ⟨s, ess, h1, hl h ess h2⟩
theorem LeR.of {a b : List (List DV)} (h : a = b) : LeR a b := fun _ _ hx => h ▸ hx
mutual
def lePV : PV → PV → Tr Unit
 | _, .dead => .ret ()
 | .d x, .d y => .ask (fun _ => LeD (x ()) (y ())) (.ret ())
 | .b u, .b v => if u = v then .ret () else .fail 100
 | .b u, .d y => .ask (fun _ => y () = .lit (.bool u)) (.ret ())
 | .ptr b o, .ptr b' o' => if b = b' ∧ o = o' then .ret () else .fail 101
 | .own b o, .own b' o' => if b = b' ∧ o = o' then .ret () else .fail 102
 | .ept cs o, .ept cs' o' => if o = o' then .ask (fun _ => cs () = cs' ()) (.ret ()) else .fail 103
 | .rpt r k n i o, .rpt r' k' n' i' o' => if r = r' ∧ k = k' ∧ n = n' ∧ o = o' then .ask (fun _ => i () = i' ()) (.ret ()) else .fail 104
 | .agg cs, .agg cs' => leL cs cs'
 | .tup cs, .tup cs' => leL cs cs'
 | .fn f xs ys, .fn f' xs' ys' => if f = f' then (leL xs xs').bind fun _ => leL ys ys' else .fail 105
 | .ifp t x, .ifp t' x' => if t = t' then lePV x x' else .fail 106
 | _, _ => .fail 107
def leL : List PV → List PV → Tr Unit
 | [], [] => .ret ()
 | p :: r, q :: s => (lePV p q).bind fun _ => leL r s
 | _, _ => .fail 108
end
def leO : Ob → Ob → Tr Unit
 | .blk cs, .blk cs' => leL cs cs'
 | .row k t n es, .row k' t' n' es' => if k = k' ∧ t = t' ∧ n = n' then .ask (fun _ => LeR (es ()) (es' ())) (.ret ()) else .fail 109
 | _, _ => .fail 110
def leT (s : St) : List (Nat × PV) → Tr Unit
 | [] => .ret ()
 | (i, p) :: r => (lePV (s.T i) p).bind fun _ => leT s r
def leM (m : List (Nat × Ob)) : List (Nat × Ob) → Tr Unit
 | [] => .ret ()
 | (b, ob) :: r => match lk m b with
  | some o => (leO o ob).bind fun _ => leM m r
  | none => .fail 111
def leS (s q : St) : Tr Unit := if s.nx ≤ q.nx ∧ s.n0 = q.n0 then (leT s q.t).bind fun _ => leM s.m q.m else .fail 112
def swp (l : List (Nat × Nat)) : List (Nat × Nat) := l.map fun x => (x.2, x.1)
def phi (n0 : Nat) (l : List (Nat × Nat)) (b : Nat) : Option Nat := if b < n0 then some b else lk l b
def chkN (n0 nx : Nat) (l : List (Nat × Nat)) : Bool := decide (n0 ≤ nx) && l.all fun x => decide (n0 ≤ x.1) && decide (n0 ≤ x.2) && decide (x.2 < nx) && (lk (swp l) x.2 == some x.1)
def keepM (φ : Nat → Option Nat) (fz : Nat → Option Ob) (m : List (Nat × Ob)) : List Nat → List (Nat × Ob)
 | [] => []
 | b :: r => match φ b, (lk m b).bind (trO φ fz) with
  | some b', some o => (b', o) :: keepM φ fz m r
  | _, _ => keepM φ fz m r
def fzOf (φ : Nat → Option Nat) (m : List (Nat × Ob)) (l : List Nat) (b : Nat) : Option Ob := if l.contains b then match φ b with
 | none => lk m b
 | some _ => none
 else none
def canon (l : List (Nat × Nat)) (fz : List Nat) (nx : Nat) (ts os : List Nat) (s : St) : St :=
 ⟨ts.map fun i => (i, (s.T i).tr (tau (phi s.n0 l) (fzOf (phi s.n0 l) s.m fz))), keepM (phi s.n0 l) (fzOf (phi s.n0 l) s.m fz) s.m os, nx, s.n0⟩
def cln (l : List (Nat × Nat)) (fz os : List Nat) (q s : St) : Tr Unit := if chkN s.n0 q.nx l then leS (canon l fz q.nx (q.t.map (·.1)) os s) q else .fail 113
section
variable {P : Program} {ti : Tb} {G : List (Nat × List DV)} {PW : Code → St → (Exit → St → Prop) → Prop} {C : Cx} {nt : Nat}
mutual
theorem lePV_ok {Q : Unit → Prop} (p q : PV) (hh : holds P G PW (lePV p q) Q) : Q () ∧ ∀ N h v, PVR N h p v → PVR N h q v := by
 unfold lePV at hh
 split at hh
 ·exact ⟨hh, fun N h v _ => by rw [PVR]; trivial⟩
 ·exact ⟨hh.2, fun N h v hx => by rw [PVR] at hx ⊢; exact hh.1 h v hx⟩
 ·split at hh
  ·rename_i e; subst e; exact ⟨hh, fun N h v hx => hx⟩
  ·exact hh.elim
 ·exact ⟨hh.2, fun N h v hx => by
   rw [PVR] at hx
   exact hx ▸ PVR.lit hh.1 rfl⟩
 ·split at hh
  ·rename_i e; obtain ⟨rfl, rfl⟩ := e; exact ⟨hh, fun N h v hx => hx⟩
  ·exact hh.elim
 ·split at hh
  ·rename_i e; obtain ⟨rfl, rfl⟩ := e; exact ⟨hh, fun N h v hx => hx⟩
  ·exact hh.elim
 ·rename_i cs o cs' o'
  split at hh
  ·rename_i e; subst e
   have e2 : cs = cs' := funext fun _ => hh.1
   subst e2; exact ⟨hh.2, fun N h v hx => hx⟩
  ·exact hh.elim
 ·rename_i r k n i o r' k' n' i' o'
  split at hh
  ·rename_i e; obtain ⟨rfl, rfl, rfl, rfl⟩ := e
   have e2 : i = i' := funext fun _ => hh.1
   subst e2; exact ⟨hh.2, fun N h v hx => hx⟩
  ·exact hh.elim
 ·rename_i cs cs'
  obtain ⟨h1, h2⟩ := leL_ok cs cs' hh
  exact ⟨h1, fun N h v hx => by
   rw [PVR] at hx ⊢
   obtain ⟨ws, q1, q2, q3⟩ := hx; exact ⟨ws, q1, h2 N h ws q2, q3⟩⟩
 ·rename_i cs cs'
  obtain ⟨h1, h2⟩ := leL_ok cs cs' hh
  exact ⟨h1, fun N h v hx => by
   rw [PVR] at hx ⊢
   obtain ⟨ws, q1, q2⟩ := hx; exact ⟨ws, q1, h2 N h ws q2⟩⟩
 ·rename_i f xs ys f' xs' ys'
  split at hh
  ·rename_i e; subst e
   rw [holds_bind] at hh
   obtain ⟨h1, h2⟩ := leL_ok xs xs' hh
   obtain ⟨h3, h4⟩ := leL_ok ys ys' h1
   exact ⟨h3, fun N h v hx => by
    rw [PVR] at hx ⊢
    obtain ⟨vs, ws, q1, q2, q3⟩ := hx; exact ⟨vs, ws, q1, h2 N h vs q2, h4 N h ws q3⟩⟩
  ·exact hh.elim
 ·rename_i t x t' x'
  split at hh
  ·rename_i e; subst e
   obtain ⟨h1, h2⟩ := lePV_ok x x' hh
   exact ⟨h1, fun N h v hx => by
    rw [PVR] at hx ⊢
    obtain ⟨u, q1, q2⟩ := hx; exact ⟨u, q1, h2 N h u q2⟩⟩
  ·exact hh.elim
 ·exact hh.elim
termination_by SizeOf.sizeOf p
theorem leL_ok {Q : Unit → Prop} (p q : List PV) (hh : holds P G PW (leL p q) Q) : Q () ∧ ∀ N h v, PVRs N h p v → PVRs N h q v := by
 unfold leL at hh
 split at hh
 ·exact ⟨hh, fun N h v hx => hx⟩
 ·rename_i p r q s
  rw [holds_bind] at hh
  obtain ⟨h1, h2⟩ := lePV_ok p q hh
  obtain ⟨h3, h4⟩ := leL_ok r s h1
  exact ⟨h3, fun N h v hx => by
   rw [PVRs] at hx ⊢
   obtain ⟨u, us, q1, q2, q3⟩ := hx; exact ⟨u, us, q1, h2 N h u q2, h4 N h us q3⟩⟩
 ·exact hh.elim
termination_by SizeOf.sizeOf p
end
def ObLe (ob ob' : Ob) : Prop := (∀ N b, adr N b ob' = adr N b ob) ∧ ∀ N h w b, ObR N h w b ob → ObR N h w b ob'
theorem leO_ok {Q : Unit → Prop} (p q : Ob) (hh : holds P G PW (leO p q) Q) : Q () ∧ ObLe p q := by
 unfold leO at hh
 split at hh
 ·rename_i cs cs'
  obtain ⟨h1, h2⟩ := leL_ok cs cs' hh
  exact ⟨h1, fun N b => rfl, fun N h w b ⟨g, ws, q1, q2, q3, q4⟩ => ⟨g, ws, q1, q2, h2 N h ws q3, q4⟩⟩
 ·rename_i k t n es k' t' n' es'
  split at hh
  ·rename_i e; obtain ⟨rfl, rfl, rfl⟩ := e
   exact ⟨hh.2, fun N b => rfl, fun N h w b ⟨v, ess, q1, q2, q3, q4⟩ => ⟨v, ess, q1, by rw [← (hh.1 h ess q3).len, q3.len]; exact q2, hh.1 h ess q3, q4⟩⟩
  ·exact hh.elim
 ·exact hh.elim
theorem leT_ok {Q : Unit → Prop} {s : St} : ∀ (l : List (Nat × PV)), holds P G PW (leT s l) Q → Q () ∧ ∀ i p, (i, p) ∈ l → ∀ N h v, PVR N h (s.T i) v → PVR N h p v
 | [], hh => ⟨hh, fun i p h => by cases h⟩
 | (j, q) :: r, hh => by
  rw [leT, holds_bind] at hh
  obtain ⟨h1, h2⟩ := lePV_ok _ q hh
  obtain ⟨h3, h4⟩ := leT_ok r h1
  refine ⟨h3, fun i p h => ?_⟩
  rcases List.mem_cons.1 h with h | h
  ·cases h; exact h2
  ·exact h4 i p h
theorem leM_ok {Q : Unit → Prop} {m : List (Nat × Ob)} : ∀ (l : List (Nat × Ob)), holds P G PW (leM m l) Q → Q () ∧ ∀ b ob', (b, ob') ∈ l → ∃ ob, lk m b = some ob ∧ ObLe ob ob'
 | [], hh => ⟨hh, fun i p h => by cases h⟩
 | (j, q) :: r, hh => by
  rw [leM] at hh
  split at hh
  ·rename_i o ho
   rw [holds_bind] at hh
   obtain ⟨h1, h2⟩ := leO_ok _ q hh
   obtain ⟨h3, h4⟩ := leM_ok r h1
   refine ⟨h3, fun b p h => ?_⟩
   rcases List.mem_cons.1 h with h | h
   ·cases h; exact ⟨o, ho, h2⟩
   ·exact h4 b p h
  ·exact hh.elim
theorem lk_in {α : Type} : ∀ {l : List (Nat × α)} {b : Nat} {x : α}, lk l b = some x → (b, x) ∈ l
 | (j, y) :: r, b, x, h => by
  rw [lk] at h
  split at h
  ·rename_i e; cases h; subst e; exact List.mem_cons_self ..
  ·exact List.mem_cons_of_mem _ (lk_in h)
theorem mem_le {F Xp dm : Nat → Prop} {w0 w : World} {N : Nm} {M M' : Nat → Option Ob} (H : Mem G F Xp dm w0 N M w) (hM : ∀ b ob', M' b = some ob' → ∃ ob, M b = some ob ∧ adr N b ob' = adr N b ob ∧ ∀ h, ObR N h w b ob → ObR N h w b ob') : Mem G F Xp dm w0 N M' w ∧ FLe (rd F N M w) (rd F N M' w) := by
 have hl : FLe (rd F N M w) (rd F N M' w) := fun k o hk => by
  obtain ⟨h1, h2⟩ := fragX_some hk
  refine fragX_of (fun hX => h1 ?_) h2
  rcases hX with hX | ⟨b, ob', h3, h4⟩
  ·exact .inl hX
  ·obtain ⟨ob, h5, h6, _⟩ := hM b ob' h3
   exact .inr ⟨b, ob, h5, by rw [← h6]; exact h4⟩
 refine ⟨⟨H.ext, H.flt, fun b ob' h => ?_, fun b c ob' oc' g h1 h2 h3 h4 => ?_, fun b ob' g h1 h2 => ?_, H.dom, fun g cs hg => (H.glob g cs hg).mono hl⟩, hl⟩
 ·obtain ⟨ob, h5, h6, h7⟩ := hM b ob' h
  exact h7 _ ((H.obj b ob h5).keep (Nm.le.refl N) hl (fun _ _ => rfl))
 ·obtain ⟨ob, q1, q2, _⟩ := hM b ob' h1
  obtain ⟨oc, q3, q4, _⟩ := hM c oc' h2
  rw [q2] at h3; rw [q4] at h4
  exact H.apart b c ob oc g q1 q3 h3 h4
 ·obtain ⟨ob, q1, q2, _⟩ := hM b ob' h1
  rw [q2] at h2
  exact H.at_ b ob g q1 h2
theorem leS_ok {s q : St} (hh : holds P G PW (leS s q) (fun _ => True)) {a : Act} {w : World} (h : Rel G C nt s a w) : Rel G C nt q a w := by
 obtain ⟨hn0, N, h⟩ := h
 unfold leS at hh
 split at hh
 ·rename_i hc
  rw [holds_bind] at hh
  obtain ⟨h1, h2⟩ := leT_ok _ hh
  obtain ⟨_, h3⟩ := leM_ok _ h1
  obtain ⟨q1, q2⟩ := mem_le (M' := lk q.m) h.mem (fun b ob' hb => (h3 b ob' (lk_in hb)).imp fun ob x => ⟨x.1, x.2.1 N b, fun h => x.2.2 N h w b⟩)
  refine ⟨hn0.trans hc.2, N, q1.more (fun b hb => ?_), fun t => ?_, h.dfr, h.sz, h.old, Nat.le_trans h.sub hc.1⟩
  ·rcases hb with hb | ⟨j, hj, _⟩
   ·exact .inl (Nat.lt_of_lt_of_le hb hc.1)
   ·cases hj
  ·show PVR N _ (q.T t) _
   unfold St.T
   cases ht : lk q.t t with
   | none => show PVR N _ .dead _; rw [PVR]; trivial
   | some p => exact h2 t p (lk_in ht) N _ _ (PVR.mono (Nm.le.refl N) q2 _ _ (h.tmp t))
 ·exact hh.elim
theorem swp_lk {l : List (Nat × Nat)} {n0 nx : Nat} (hc : chkN n0 nx l = true) {b b' : Nat} (h : phi n0 l b = some b') : phi n0 (swp l) b' = some b := by
 unfold chkN at hc
 rw [Bool.and_eq_true] at hc
 unfold phi at h ⊢
 split at h
 ·rename_i hb; cases h; rw [if_pos hb]
 ·have := List.all_eq_true.1 hc.2 _ (lk_in h)
  simp only [Bool.and_eq_true, decide_eq_true_eq, beq_iff_eq] at this
  rw [if_neg (by omega)]; exact this.2
theorem keepM_ok {φ : Nat → Option Nat} {fz : Nat → Option Ob} {m : List (Nat × Ob)} : ∀ (os : List Nat) (b' : Nat) (ob' : Ob), (b', ob') ∈ keepM φ fz m os → ∃ b ob, φ b = some b' ∧ lk m b = some ob ∧ trO φ fz ob = some ob'
 | [], b', ob', h => by cases h
 | b :: r, b', ob', h => by
  rw [keepM] at h
  split at h
  ·rename_i c o h1 h2
   rcases List.mem_cons.1 h with h | h
   ·cases h
    obtain ⟨ob, q1, q2⟩ := Option.bind_eq_some_iff.1 h2
    exact ⟨b, ob, h1, q1, q2⟩
   ·exact keepM_ok r b' ob' h
  ·exact keepM_ok r b' ob' h
theorem canon_ok {l : List (Nat × Nat)} {fz ts os : List Nat} {nx : Nat} {s : St} (hc : chkN s.n0 nx l = true) {a : Act} {w : World} (h : Rel G C nt s a w) : Rel G C nt (canon l fz nx ts os s) a w := by
 obtain ⟨hn0, N, h⟩ := h
 have hc' := hc
 unfold chkN at hc'
 rw [Bool.and_eq_true] at hc'
 have hn : s.n0 ≤ nx := of_decide_eq_true hc'.1
 have hψ : ∀ x, s.n0 ≤ x → ∀ a, phi s.n0 (swp l) x = some a → s.n0 ≤ a ∧ x < nx := fun x hx a ha => by
  unfold phi at ha
  rw [if_neg (by omega)] at ha
  have := lk_in ha
  unfold swp at this
  obtain ⟨y, hy, e⟩ := List.mem_map.1 this
  cases e
  have := List.all_eq_true.1 hc'.2 _ hy
  simp only [Bool.and_eq_true, decide_eq_true_eq, beq_iff_eq] at this
  exact ⟨this.1.1.1, this.1.2⟩
 have hlow : ∀ x, x < s.n0 → phi s.n0 (swp l) x = some x := fun x hx => by unfold phi; rw [if_pos hx]
 obtain ⟨q1, q2, q3⟩ := canon_mem (dm' := nmD nx fun _ => false) (M' := lk (keepM (phi s.n0 l) (fzOf (phi s.n0 l) s.m fz) s.m os)) h.mem (φ := phi s.n0 l) (ψ := phi s.n0 (swp l)) (fun b b' hb => swp_lk hc hb) (fz := fzOf (phi s.n0 l) s.m fz) (fun b ob hb => by
   unfold fzOf at hb
   split at hb
   ·split at hb
    ·rename_i e; exact ⟨hb, e⟩
    ·cases hb
   ·cases hb) (fun b' ob' hb => keepM_ok os b' ob' (lk_in hb)) (fun b hb => by
   cases hp : phi s.n0 (swp l) b with
   | none => rfl
   | some a =>
    exfalso
    refine hb (.inl ?_)
    by_cases hlt : b < s.n0
    ·omega
    ·exact (hψ b (by omega) a hp).2)
 have hNlt : ∀ b g, C.N0.A b = some g → b < s.n0 := fun b g hb => by
  rcases Nat.lt_or_ge b s.n0 with h' | h'
  ·exact h'
  ·rw [(C.hN b (by rw [hn0]; exact h')).1] at hb; cases hb
 refine ⟨hn0, N.via (phi s.n0 (swp l)), q1, fun t => ?_, h.dfr, h.sz, ⟨⟨fun b g hb => ?_, fun r k u hu => ?_⟩, fun b hb => ?_, fun b r hb => ?_⟩, by show C.n0 ≤ nx; omega⟩
 ·show PVR _ _ ((lk (ts.map fun i => (i, (s.T i).tr _)) t).getD .dead) _
  cases ht : lk (ts.map fun i => (i, (s.T i).tr (tau (phi s.n0 l) (fzOf (phi s.n0 l) s.m fz)))) t with
  | none => show PVR _ _ .dead _; rw [PVR]; trivial
  | some p =>
   obtain ⟨i, hi, e⟩ := List.mem_map.1 (lk_in ht)
   cases e
   exact q3 _ _ (h.tmp t)
 ·have hlt := hNlt b g hb
  show (phi s.n0 (swp l) b).bind N.A = some g
  rw [hlow b hlt]
  exact h.old.le.a b g hb
 ·have h1 : r < s.n0 := by
   rcases Nat.lt_or_ge r s.n0 with h' | h'
   ·exact h'
   ·rw [((C.hN r (by rw [hn0]; exact h')).2 k).2] at hu; cases hu
  have h2 : k < s.n0 := by
   rcases Nat.lt_or_ge k s.n0 with h' | h'
   ·exact h'
   ·rw [((C.hN k (by rw [hn0]; exact h')).2 r).1] at hu; cases hu
  show ((phi s.n0 (swp l) r).bind fun a => (phi s.n0 (swp l) k).bind fun b => N.V a b) = some u
  rw [hlow r h1, hlow k h2]
  exact h.old.le.v r k u hu
 ·have hb' : b < s.n0 := by rw [← hn0]; exact hb
  show (phi s.n0 (swp l) b).bind N.A = C.N0.A b
  rw [hlow b hb']
  exact h.old.a b hb
 ·have hb' : b < s.n0 := by rw [← hn0]; exact hb
  show ((phi s.n0 (swp l) r).bind fun a => (phi s.n0 (swp l) b).bind fun c => N.V a c) = C.N0.V r b
  rw [hlow b hb']
  by_cases hr : r < s.n0
  ·rw [hlow r hr]; exact h.old.v b r hb
  ·have e1 : C.N0.V r b = none := ((C.hN r (by rw [hn0]; omega)).2 b).2
   rw [e1]
   cases hp : phi s.n0 (swp l) r with
   | none => rfl
   | some a =>
    have := (hψ r (by omega) a hp).1
    show N.V a b = none
    rw [h.old.v b a hb]
    exact ((C.hN a (by rw [hn0]; exact this)).2 b).2
theorem cln_ok {l : List (Nat × Nat)} {fz os : List Nat} {q s : St} (hh : holds P G PW (cln l fz os q s) (fun _ => True)) {a : Act} {w : World} (h : Rel G C nt s a w) : Rel G C nt q a w := by
 unfold cln at hh
 split at hh
 ·rename_i hc; exact leS_ok hh (canon_ok hc h)
 ·exact hh.elim
end
end Go.Proofs.YtlmbcoecipbblaaGreatDoor
namespace Go.Proofs.YtlmbcoecipbblaaGreatDoor
open Go.RowKit
def PV.ren (e : Nat → Nat) (p : PV) : PV := p.tr (tau (fun b => some (e b)) fun _ => none)
def renL (e : Nat → Nat) (l : List PV) : List PV := trL (tau (fun b => some (e b)) fun _ => none) l
def renO (e : Nat → Nat) : Ob → Ob
 | .blk cs => .blk (renL e cs)
 | .row k t n es => .row (e k) t n es
def renM (e : Nat → Nat) (m : List (Nat × Ob)) : List (Nat × Ob) := m.map fun x => (e x.1, renO e x.2)
mutual
def PV.low (n : Nat) : PV → Bool
 | .ptr b _ => decide (b < n)
 | .own r k => decide (r < n) && decide (k < n)
 | .rpt r k _ _ _ => decide (r < n) && decide (k < n)
 | .agg cs => lowL n cs
 | .tup cs => lowL n cs
 | .fn _ xs ys => lowL n xs && lowL n ys
 | .ifp _ x => x.low n
 | _ => true
def lowL (n : Nat) : List PV → Bool
 | [] => true
 | p :: r => p.low n && lowL n r
end
def Ob.low (n : Nat) : Ob → Bool
 | .blk cs => lowL n cs
 | .row k _ _ _ => decide (k < n)
def named (n : Nat) (H : List (Nat × Ob)) : Bool := ((List.range n).all fun b => (lk H b).isSome || H.any fun x => match lk H x.1 with
 | some (.row k _ _ _) => k == b
 | _ => false) && H.all fun x => decide (x.1 < n) && x.2.low n
def outer (nb : Nat) (f0 fr : List Nat) (b : Nat) : Nat := if b < nb then f0.getD b 0 else fr.getD (b - nb) 0
section
variable {N : Nm} {h : Frag} {nb : Nat} {e : Nat → Nat}
def Nm.inn (N : Nm) (nb : Nat) (e : Nat → Nat) : Nm := N.via fun b => if b < nb then some (e b) else none
theorem inn_A (N : Nm) {b : Nat} (hb : b < nb) : (N.inn nb e).A b = N.A (e b) := by
 show ((if b < nb then some (e b) else none).bind N.A) = _; rw [if_pos hb]; rfl
theorem inn_V (N : Nm) {r k : Nat} (hr : r < nb) (hk : k < nb) : (N.inn nb e).V r k = N.V (e r) (e k) := by
 show ((if r < nb then some (e r) else none).bind fun a => (if k < nb then some (e k) else none).bind fun b => N.V a b) = _; rw [if_pos hr, if_pos hk]; rfl
mutual
theorem back_ok : ∀ (p : PV) (v : Value), p.low nb = true → PVR N h (p.ren e) v → PVR (N.inn nb e) h p v
 | .agg cs, v, hl, hp => by
  unfold PV.ren at hp
  rw [PV.tr, PVR] at hp; obtain ⟨ws, rfl, h1, h2⟩ := hp
  rw [PV.low] at hl
  rw [PVR]; exact ⟨ws, rfl, backL_ok cs ws hl h1, h2⟩
 | .tup cs, v, hl, hp => by
  unfold PV.ren at hp
  rw [PV.tr, PVR] at hp; obtain ⟨ws, rfl, h1⟩ := hp
  rw [PV.low] at hl
  rw [PVR]; exact ⟨ws, rfl, backL_ok cs ws hl h1⟩
 | .fn g xs ys, v, hl, hp => by
  unfold PV.ren at hp
  rw [PV.tr, PVR] at hp; obtain ⟨vs, ws, rfl, h1, h2⟩ := hp
  rw [PV.low, Bool.and_eq_true] at hl
  rw [PVR]; exact ⟨vs, ws, rfl, backL_ok xs vs hl.1 h1, backL_ok ys ws hl.2 h2⟩
 | .ifp t x, v, hl, hp => by
  rw [PV.low] at hl
  unfold PV.ren at hp
  rw [PV.tr] at hp
  have h2 : ∃ u, v = .iface t u ∧ PVR N h (x.ren e) u := by
   split at hp
   ·rename_i y hy
    rw [PVR, DR] at hp
    obtain ⟨u, rfl, hu⟩ := hp
    exact ⟨u, rfl, by unfold PV.ren; rw [hy, PVR]; exact hu⟩
   ·rw [PVR] at hp
    obtain ⟨u, rfl, hu⟩ := hp
    exact ⟨u, rfl, hu⟩
  obtain ⟨u, rfl, hu⟩ := h2
  rw [PVR]; exact ⟨u, rfl, back_ok x u hl hu⟩
 | .d x, v, hl, hp => by
  have hp : PVR N h (.d x) v := hp
  rw [PVR] at hp ⊢; exact hp
 | .ptr b o, v, hl, hp => by
  have hp : PVR N h (.ptr (e b) o) v := hp
  rw [PVR] at hp ⊢
  obtain ⟨g, h1, h2⟩ := hp
  rw [PV.low] at hl
  exact ⟨g, (inn_A N (of_decide_eq_true hl)).trans h1, h2⟩
 | .own r k, v, hl, hp => by
  have hp : PVR N h (.own (e r) (e k)) v := hp
  rw [PVR] at hp ⊢
  rw [PV.low, Bool.and_eq_true] at hl
  exact ⟨(inn_V N (of_decide_eq_true hl.1) (of_decide_eq_true hl.2)).trans hp.1, hp.2⟩
 | .ept cs o, v, hl, hp => by
  have hp : PVR N h (.ept cs o) v := hp
  rw [PVR] at hp ⊢; exact hp
 | .rpt r k n i o, v, hl, hp => by
  have hp : PVR N h (.rpt (e r) (e k) n i o) v := hp
  rw [PVR] at hp ⊢
  obtain ⟨g, l, c, h1, h2⟩ := hp
  rw [PV.low, Bool.and_eq_true] at hl
  exact ⟨g, l, c, (inn_V N (of_decide_eq_true hl.1) (of_decide_eq_true hl.2)).trans h1, h2⟩
 | .b u, v, hl, hp => by
  have hp : PVR N h (.b u) v := hp
  rw [PVR] at hp ⊢; exact hp
 | .dead, v, hl, hp => by rw [PVR]; trivial
theorem backL_ok : ∀ (p : List PV) (v : List Value), lowL nb p = true → PVRs N h (renL e p) v → PVRs (N.inn nb e) h p v
 | [], v, hl, hp => by
  have hp : PVRs N h [] v := hp
  rw [PVRs] at hp ⊢; exact hp
 | p :: r, v, hl, hp => by
  have hp : PVRs N h (p.ren e :: renL e r) v := hp
  rw [PVRs] at hp ⊢
  obtain ⟨u, us, h1, h2, h3⟩ := hp
  rw [lowL, Bool.and_eq_true] at hl
  exact ⟨u, us, h1, back_ok p u hl.1 h2, backL_ok r us hl.2 h3⟩
end
end
theorem lk_ren {e : Nat → Nat} {n : Nat} (hinj : ∀ a b, a < n → b < n → e a = e b → a = b) : ∀ {H : List (Nat × Ob)} {b : Nat}, (∀ x ∈ H, x.1 < n) → b < n → lk (renM e H) (e b) = (lk H b).map (renO e)
 | [], b, _, _ => rfl
 | (j, o) :: r, b, hH, hb => by
  show lk ((e j, renO e o) :: renM e r) (e b) = _
  rw [lk, lk]
  by_cases hj : j = b
  ·rw [if_pos (by rw [hj]), if_pos hj]; rfl
  ·rw [if_neg (fun h => hj (hinj j b (hH _ (List.mem_cons_self ..)) hb h)), if_neg hj]
   exact lk_ren hinj (fun x hx => hH x (List.mem_cons_of_mem _ hx)) hb
theorem lk_ren_of {e : Nat → Nat} : ∀ {H : List (Nat × Ob)} {x : Nat} {o : Ob}, lk (renM e H) x = some o → ∃ b, b ∈ H.map (·.1) ∧ e b = x
 | (j, y) :: r, x, o, h => by
  have h : lk ((e j, renO e y) :: renM e r) x = some o := h
  rw [lk] at h
  split at h
  ·rename_i hj; exact ⟨j, List.mem_cons_self .., hj⟩
  ·obtain ⟨b, h1, h2⟩ := lk_ren_of h
   exact ⟨b, List.mem_cons_of_mem _ h1, h2⟩
section
variable {G : List (Nat × List DV)} {F Xp dm : Nat → Prop} {w0 w : World} {N : Nm} {H : List (Nat × Ob)} {nb : Nat} {e : Nat → Nat}
theorem named_low (hn : named nb H = true) : ∀ x ∈ H, x.1 < nb ∧ x.2.low nb = true := fun x hx => by
 unfold named at hn
 rw [Bool.and_eq_true] at hn
 have := List.all_eq_true.1 hn.2 x hx
 rw [Bool.and_eq_true] at this
 exact ⟨of_decide_eq_true this.1, this.2⟩
theorem enter_mem (hm : Mem G F Xp dm w0 N (lk (renM e H)) w) (hn : named nb H = true) (hinj : ∀ a b, a < nb → b < nb → e a = e b → a = b) :
  Mem G F Xp (nmD nb fun _ => false) w0 (N.inn nb e) (lk H) w ∧ rd F (N.inn nb e) (lk H) w = rd F N (lk (renM e H)) w ∧ ∀ b, b < nb → dm (e b) := by
 have hlow := named_low hn
 have hL : ∀ {b}, b < nb → lk (renM e H) (e b) = (lk H b).map (renO e) := fun hb => lk_ren hinj (fun x hx => (hlow x hx).1) hb
 have hlt : ∀ {b ob}, lk H b = some ob → b < nb ∧ ob.low nb = true := fun hb => hlow _ (lk_in hb)
 have hadr : ∀ b ob, lk H b = some ob → adr (N.inn nb e) b ob = adr N (e b) (renO e ob) := fun b ob hb => by
  obtain ⟨h1, h2⟩ := hlt hb
  cases ob with
  | blk cs => exact inn_A N h1
  | row k t n es =>
   have h2 : decide (k < nb) = true := h2
   show ((N.inn nb e).V b k).bind _ = (N.V (e b) (e k)).bind _
   rw [inn_V N h1 (of_decide_eq_true h2)]
 have hheld : held F (N.inn nb e) (lk H) = held F N (lk (renM e H)) := funext fun g => propext (by
  constructor
  ·rintro (h | ⟨b, ob, h1, h2⟩)
   ·exact .inl h
   ·exact .inr ⟨e b, renO e ob, by rw [hL (hlt h1).1, h1]; rfl, by rw [← hadr b ob h1]; exact h2⟩
  ·rintro (h | ⟨x, ox, h1, h2⟩)
   ·exact .inl h
   ·obtain ⟨b, hb, rfl⟩ := lk_ren_of h1
    obtain ⟨ob, hob⟩ := (lk_mem H b).2 hb
    rw [hL (hlt hob).1, hob] at h1
    cases h1
    exact .inr ⟨b, ob, hob, by rw [hadr b ob hob]; exact h2⟩)
 have hrd : rd F (N.inn nb e) (lk H) w = rd F N (lk (renM e H)) w := by unfold rd; rw [hheld]
 refine ⟨⟨hm.ext, hm.flt, fun b ob hb => ?_, fun b c ob oc g h1 h2 h3 h4 => ?_, fun b ob g h1 h2 => ?_, fun b hb => ?_, fun g cs hg => by rw [hrd]; exact hm.glob g cs hg⟩, hrd, fun b hb => ?_⟩
 ·obtain ⟨h1, h2⟩ := hlt hb
  have ho := hm.obj (e b) (renO e ob) (by rw [hL h1, hb]; rfl)
  rw [hrd]
  cases ob with
  | blk cs =>
   obtain ⟨g, ws, q1, q2, q3, q4⟩ := ho
   exact ⟨g, ws, (inn_A N h1).trans q1, q2, backL_ok cs ws h2 q3, q4⟩
  | row k t n es =>
   have h2 : decide (k < nb) = true := h2
   obtain ⟨v, ess, q1, q2, q3, q4⟩ := ho
   exact ⟨v, ess, (inn_V N h1 (of_decide_eq_true h2)).trans q1, q2, q3, q4⟩
 ·rw [hadr b ob h1] at h3; rw [hadr c oc h2] at h4
  have := hm.apart (e b) (e c) _ _ g (by rw [hL (hlt h1).1, h1]; rfl) (by rw [hL (hlt h2).1, h2]; rfl) h3 h4
  exact hinj b c (hlt h1).1 (hlt h2).1 this
 ·rw [hadr b ob h1] at h2
  exact hm.at_ (e b) _ g (by rw [hL (hlt h1).1, h1]; rfl) h2
 ·have hb' : ¬ b < nb := fun h => hb (.inl h)
  have e1 : (if b < nb then some (e b) else none) = none := if_neg hb'
  refine ⟨?_, fun r => ⟨?_, ?_⟩⟩
  ·show ((if b < nb then some (e b) else none).bind N.A) = none; rw [e1]; rfl
  ·show ((if r < nb then some (e r) else none).bind fun a => (if b < nb then some (e b) else none).bind fun b => N.V a b) = none
   rw [e1]; split <;> rfl
  ·show ((if b < nb then some (e b) else none).bind fun a => (if r < nb then some (e r) else none).bind fun b => N.V a b) = none
   rw [e1]; rfl
 ·unfold named at hn
  rw [Bool.and_eq_true] at hn
  have h1 := List.all_eq_true.1 hn.1 b (List.mem_range.2 hb)
  rw [Bool.or_eq_true] at h1
  rcases h1 with h1 | h1
  ·cases hq : lk H b with
   | none => rw [hq] at h1; cases h1
   | some ob => exact hm.in_dm (b := e b) (ob := renO e ob) (by rw [hL hb, hq]; rfl)
  ·obtain ⟨x, hx, h2⟩ := List.any_eq_true.1 h1
   split at h2
   ·rename_i k t n es hk
    have hkb : k = b := by simpa using h2
    subst hkb
    have hx1 := (hlow x hx).1
    obtain ⟨v, ess, q1, _⟩ := hm.obj (e x.1) (renO e (.row k t n es)) (by rw [hL hx1, hk]; rfl)
    exact Classical.byContradiction fun hd => by
     have := ((hm.dom (e k) hd).2 (e x.1)).1
     rw [this] at q1; cases q1
   ·cases h2
end
end Go.Proofs.YtlmbcoecipbblaaGreatDoor
namespace Go.Proofs.YtlmbcoecipbblaaGreatDoor
open Go.RowKit
section
variable {φ : Nat → Option Nat} {e : Nat → Nat} {n : Nat}
theorem tau_low (hφ : ∀ b, b < n → φ b = some (e b)) (p : PV) (hl : p.low n = true) : tau φ (fun _ => none) p = tau (fun b => some (e b)) (fun _ => none) p := by
 cases p with
 | ptr b o => rw [PV.low] at hl; simp only [tau, hφ b (of_decide_eq_true hl)]
 | own r k => rw [PV.low, Bool.and_eq_true] at hl; simp only [tau, hφ r (of_decide_eq_true hl.1), hφ k (of_decide_eq_true hl.2)]
 | rpt r k m i o => rw [PV.low, Bool.and_eq_true] at hl; simp only [tau, hφ r (of_decide_eq_true hl.1), hφ k (of_decide_eq_true hl.2)]
 | _ => rfl
mutual
theorem tr_low (hφ : ∀ b, b < n → φ b = some (e b)) : ∀ (p : PV), p.low n = true → p.tr (tau φ fun _ => none) = p.ren e
 | .agg cs, hl => by
  rw [PV.low] at hl
  unfold PV.ren
  rw [PV.tr, PV.tr, trL_low hφ cs hl]; rfl
 | .tup cs, hl => by
  rw [PV.low] at hl
  unfold PV.ren
  rw [PV.tr, PV.tr, trL_low hφ cs hl]; rfl
 | .fn g xs ys, hl => by
  rw [PV.low, Bool.and_eq_true] at hl
  unfold PV.ren
  rw [PV.tr, PV.tr, trL_low hφ xs hl.1, trL_low hφ ys hl.2]; rfl
 | .ifp t x, hl => by
  rw [PV.low] at hl
  unfold PV.ren
  rw [PV.tr, PV.tr, tr_low hφ x hl]; rfl
 | .d x, hl => rfl
 | .ptr b o, hl => tau_low hφ (.ptr b o) hl
 | .own r k, hl => tau_low hφ (.own r k) hl
 | .ept cs o, hl => rfl
 | .rpt r k m i o, hl => tau_low hφ (.rpt r k m i o) hl
 | .b u, hl => rfl
 | .dead, hl => rfl
theorem trL_low (hφ : ∀ b, b < n → φ b = some (e b)) : ∀ (p : List PV), lowL n p = true → trL (tau φ fun _ => none) p = renL e p
 | [], hl => rfl
 | p :: r, hl => by
  rw [lowL, Bool.and_eq_true] at hl
  show p.tr _ :: trL _ r = p.ren e :: renL e r
  rw [tr_low hφ p hl.1, trL_low hφ r hl.2]
end
end
section
variable {P : Program} {ti : Tb} {G : List (Nat × List DV)} {F Xp dm dm' : Nat → Prop} {w0 w : World} {N N' : Nm} {M : Nat → Option Ob}
theorem mem_up (H : Mem G F Xp dm w0 N M w) (hN : N.le N') (hd : ∀ b, ¬ dm' b → N'.A b = none ∧ ∀ r, N'.V r b = none ∧ N'.V b r = none) : Mem G F Xp dm' w0 N' M w ∧ rd F N' M w = rd F N M w := by
 have hadr : ∀ b ob, M b = some ob → adr N' b ob = adr N b ob := fun b ob hb => (H.obj b ob hb).adr_le hN
 have hheld : held F N' M = held F N M := funext fun g => propext (by
  constructor
  ·rintro (h | ⟨b, ob, h1, h2⟩)
   ·exact .inl h
   ·exact .inr ⟨b, ob, h1, by rw [← hadr b ob h1]; exact h2⟩
  ·rintro (h | ⟨b, ob, h1, h2⟩)
   ·exact .inl h
   ·exact .inr ⟨b, ob, h1, by rw [hadr b ob h1]; exact h2⟩)
 have hrd : rd F N' M w = rd F N M w := by unfold rd; rw [hheld]
 refine ⟨⟨H.ext, H.flt, fun b ob hb => ?_, fun b c ob oc g h1 h2 h3 h4 => ?_, fun b ob g h1 h2 => ?_, hd, fun g cs hg => by rw [hrd]; exact H.glob g cs hg⟩, hrd⟩
 ·rw [hrd]; exact (H.obj b ob hb).keep hN (FLe.refl _) (fun _ _ => rfl)
 ·rw [hadr b ob h1] at h3; rw [hadr c oc h2] at h4; exact H.apart b c ob oc g h1 h2 h3 h4
 ·rw [hadr b ob h1] at h2; exact H.at_ b ob g h1 h2
open Classical in
theorem exit_mem {nb q : Nat} {e : Nat → Nat} {fr : List Nat} {H1 : List (Nat × Ob)} {r1 : PV} {N N2 : Nm} {v : Value} (hm : Mem G F Xp (nmD (nb + q) fun _ => false) w0 N2 (lk H1) w) (hold : Nm.up (fun b => b < nb) (N.inn nb e) N2)
  (hinj : ∀ a b, a < nb + q → b < nb + q → e a = e b → a = b) (hdm : ∀ b, b < nb → dm (e b)) (hfr : ∀ b, dm b → ¬ b ∈ fr) (hnew : ∀ b, nb ≤ b → b < nb + q → e b ∈ fr) (hN : ∀ b, ¬ dm b → N.A b = none ∧ ∀ r, N.V r b = none ∧ N.V b r = none)
  (hH : ∀ x ∈ H1, x.1 < nb + q ∧ x.2.low (nb + q) = true) (hr : r1.low (nb + q) = true) (hv : PVR N2 (rd F N2 (lk H1) w) r1 v) :
  ∃ N', Nm.up dm N N' ∧ Mem G F Xp (fun b => dm b ∨ b ∈ fr) w0 N' (lk (renM e H1)) w ∧ PVR N' (rd F N' (lk (renM e H1)) w) (r1.ren e) v := by
 let φ : Nat → Option Nat := fun b => if b < nb + q then some (e b) else none
 let ψ : Nat → Option Nat := fun x => if h : ∃ b, b < nb + q ∧ e b = x then some h.choose else none
 have hψ : ∀ b, b < nb + q → ψ (e b) = some b := fun b hb => by
  have h : ∃ c, c < nb + q ∧ e c = e b := ⟨b, hb, rfl⟩
  show (if h : ∃ c, c < nb + q ∧ e c = e b then some h.choose else none) = some b
  rw [dif_pos h]
  congr 1
  exact hinj _ _ h.choose_spec.1 hb h.choose_spec.2
 have hψn : ∀ x, (¬ ∃ b, b < nb + q ∧ e b = x) → ψ x = none := fun x h => dif_neg h
 have hφ : ∀ b, b < nb + q → φ b = some (e b) := fun b hb => if_pos hb
 obtain ⟨q1, q2, q3⟩ := canon_mem (dm' := fun x => ∃ b, b < nb + q ∧ e b = x) (M' := lk (renM e H1)) hm (φ := φ) (ψ := ψ) (fun b b' hb => by
   show ψ b' = some b
   have hb : (if b < nb + q then some (e b) else none) = some b' := hb
   split at hb
   ·rename_i hlt; cases hb; exact hψ b hlt
   ·cases hb) (fz := fun _ => none) (fun b ob hb => by cases hb) (fun x o hx => by
   obtain ⟨b, hb, rfl⟩ := lk_ren_of hx
   obtain ⟨ob, hob⟩ := (lk_mem H1 b).2 hb
   obtain ⟨hlt, hlow⟩ := hH _ (lk_in hob)
   rw [lk_ren hinj (fun y hy => (hH y hy).1) hlt, hob] at hx
   cases hx
   refine ⟨b, ob, hφ b hlt, hob, ?_⟩
   cases ob with
   | blk cs => show some (Ob.blk (trL (tau φ fun _ => none) cs)) = some (.blk (renL e cs)); rw [trL_low hφ cs hlow]
   | row k t n es =>
    have hk : decide (k < nb + q) = true := hlow
    rw [trO, hφ k (of_decide_eq_true hk)]; rfl) (fun x hx => hψn x hx)
 let N' : Nm := ⟨fun x => if x ∈ fr then (N2.via ψ).A x else N.A x, fun r k => if k ∈ fr then (N2.via ψ).V r k else N.V r k⟩
 have himg : ∀ x, (∃ b, b < nb + q ∧ e b = x) → ¬ x ∈ fr → ∃ b, b < nb ∧ e b = x := fun x ⟨b, hb, hx⟩ hn => by
  rcases Nat.lt_or_ge b nb with h | h
  ·exact ⟨b, h, hx⟩
  ·exact absurd (hx ▸ hnew b h hb) hn
 have himg2 : ∀ x, ψ x ≠ none → ∃ b, b < nb + q ∧ e b = x := fun x h => Classical.byContradiction fun hn => h (hψn x hn)
 have hle : (N2.via ψ).le N' := by
  refine ⟨fun x g hx => ?_, fun r k u hu => ?_⟩
  ·show (if x ∈ fr then (N2.via ψ).A x else N.A x) = some g
   split
   ·exact hx
   ·rename_i hn
    have hx : (ψ x).bind N2.A = some g := hx
    obtain ⟨b, hb, rfl⟩ := himg x (himg2 x (fun h => by rw [h] at hx; cases hx)) hn
    rw [hψ b (by omega)] at hx
    have := hold.a b hb
    rw [inn_A N hb] at this
    rw [← this]; exact hx
  ·show (if k ∈ fr then (N2.via ψ).V r k else N.V r k) = some u
   split
   ·exact hu
   ·rename_i hn
    have hu : ((ψ r).bind fun a => (ψ k).bind fun b => N2.V a b) = some u := hu
    obtain ⟨kb, hkb, rfl⟩ := himg k (himg2 k (fun h => by rw [h] at hu; cases hq : ψ r <;> rw [hq] at hu <;> cases hu)) hn
    obtain ⟨rb, hrb, rfl⟩ := himg2 r (fun h => by rw [h] at hu; cases hu)
    rw [hψ rb hrb, hψ kb (by omega)] at hu
    have h1 := hold.v kb rb hkb
    have hu : N2.V rb kb = some u := hu
    rw [h1] at hu
    rcases Nat.lt_or_ge rb nb with h2 | h2
    ·rw [inn_V N h2 hkb] at hu; exact hu
    ·have hu' : ((if rb < nb then some (e rb) else none).bind fun a => (if kb < nb then some (e kb) else none).bind fun b => N.V a b) = some u := hu
     rw [if_neg (by omega)] at hu'; cases hu'
 have hd : ∀ b, ¬ (dm b ∨ b ∈ fr) → N'.A b = none ∧ ∀ r, N'.V r b = none ∧ N'.V b r = none := fun b hb => by
  have h1 : ¬ b ∈ fr := fun h => hb (.inr h)
  have h2 := hN b (fun h => hb (.inl h))
  refine ⟨by show (if b ∈ fr then _ else N.A b) = none; rw [if_neg h1]; exact h2.1, fun r => ⟨by show (if b ∈ fr then _ else N.V r b) = none; rw [if_neg h1]; exact (h2.2 r).1, ?_⟩⟩
  show (if r ∈ fr then (N2.via ψ).V b r else N.V b r) = none
  split
  ·show ((ψ b).bind fun a => (ψ r).bind fun c => N2.V a c) = none
   have : ψ b = none := hψn b (fun h => by
    obtain ⟨c, hc, rfl⟩ := himg b h h1
    exact hb (.inl (hdm c hc)))
   rw [this]; rfl
  ·exact (h2.2 r).2
 obtain ⟨s1, s2⟩ := mem_up (dm' := fun b => dm b ∨ b ∈ fr) q1 hle hd
 refine ⟨N', ⟨⟨fun b g hb => ?_, fun r k u hu => ?_⟩, fun b hb => if_neg (hfr b hb), fun b r hb => if_neg (hfr b hb)⟩, s1, ?_⟩
 ·show (if b ∈ fr then _ else N.A b) = some g
  rw [if_neg]
  ·exact hb
  ·exact hfr b (Classical.byContradiction fun h => by rw [(hN b h).1] at hb; cases hb)
 ·show (if k ∈ fr then _ else N.V r k) = some u
  rw [if_neg]
  ·exact hu
  ·exact hfr k (Classical.byContradiction fun h => by rw [((hN k h).2 r).1] at hu; cases hu)
 ·rw [s2]
  have := q3 r1 v hv
  rw [tr_low hφ r1 hr] at this
  exact PVR.mono hle (FLe.refl _) _ _ this
end
end Go.Proofs.YtlmbcoecipbblaaGreatDoor
namespace Go.Proofs.YtlmbcoecipbblaaGreatDoor
open Go.RowKit
section
variable {P : Program} {ti : Tb} {G : List (Nat × List DV)} {C : Cx} {nt : Nat}
theorem res_ok (hti : TyOk P ti) {s : St} {a : Act} {w : World} {N : Nm} {nx : Nat} {D : Nat → Bool} (h : RelF G C nt nx D s.fs a w N) : ∀ (rs : List ResultVar) (l l' : List Nat) (ps : List PV), Yl P G (lk s.m) (resV ti s rs) l l' ps →
  ∃ vs, (rs.mapM (fun | .tmp t => pure (a.tmps.getD t undef) | .cell p t => do loadVar t (← asAddr (a.tmps.getD p undef)) : ResultVar → Sem Value)).run P w = .ok vs w ∧ PVRs N (rd C.F N (lk s.m) w) ps vs
 | [], l, l', ps, hy => by
  cases hy
  exact ⟨[], rfl, by rw [PVRs]⟩
 | .tmp t :: r, l, l', ps, hy => by
  rw [resV] at hy
  obtain ⟨l1, x, hy1, hy2⟩ := bind_yl hy
  cases hy2
  obtain ⟨vs, h1, h2⟩ := res_ok hti h r _ _ _ hy1
  refine ⟨a.tmps.getD t undef :: vs, ?_, by rw [PVRs]; exact ⟨_, vs, rfl, h.tmp t, h2⟩⟩
  simp only [List.mapM_cons, Sem.run_bind, Sem.run_pure, Result.andThen_ok, h1]
 | .cell t ty :: r, l, l', ps, hy => by
  rw [resV] at hy
  unfold ofOpt at hy
  split at hy
  ·rename_i T hT
   split at hy
   ·rename_i b o hb
    cases hy with
    | @obj _ ob _ _ _ _ hM hy =>
    cases ob with
    | row => cases hy
    | blk cs =>
     obtain ⟨l1, x, hy1, hy2⟩ := bind_yl hy
     obtain ⟨l2, xs, hy3, hy4⟩ := bind_yl hy2
     cases hy4
     obtain ⟨vs, h1, h2⟩ := res_ok hti h r _ _ _ hy3
     have ht := h.tmp t
     have hT' : s.fs.T t = .ptr b o := hb
     rw [hT', PVR] at ht
     obtain ⟨g, hg, e1⟩ := ht
     obtain ⟨g', ws, hg', hbk, hps, h1s⟩ := h.mem.obj b _ hM
     rw [hg] at hg'; cases hg'
     have hlen := partOf_len hy1
     have hr : w.rangeAt g o ((ws.drop o).take T.size) := by
      have := range_sub (w := w) (g := g) (o := 0) (n := T.size) (ws := ws) (fun j u hu => by rw [Nat.zero_add]; exact hbk.cell hu) o
      rwa [Nat.zero_add] at this
     obtain ⟨v, hv, hk⟩ := part_run (hti _ _ hT) (w := w) (g := g) (off := o) (cs := (ws.drop o).take T.size) (by rw [(hps.sub o T.size).len]; exact hlen) hr
     obtain ⟨hpv, _⟩ := partOf_yl (hti _ _ hT) (hps.sub o T.size) (sub_ones h1s o T.size) hk hy1
     have hload : (loadVar ty ⟨g, o, none⟩).run P w = .ok v w := by
      simpa only [Instr.loadAt, Instr.sureAddr, Sem.run_bind, Sem.run_pure, Result.andThen_ok] using hv
     refine ⟨v :: vs, ?_, by rw [PVRs]; exact ⟨v, vs, rfl, hpv, h2⟩⟩
     have ha : (asAddr (.pointer (some ⟨g, o, none⟩)) : Sem Addr).run P w = .ok ⟨g, o, none⟩ w := rfl
     simp only [List.mapM_cons, Sem.run_bind, e1, ha, Sem.run_pure, Result.andThen_ok, hload, h1]
   ·cases hy
  ·cases hy
theorem ans_run {fn : Func} {tmps : Array Value} {w : World} {vs : List Value} {ps : List PV} {N : Nm} {h : Frag} (hr : (fn.results.toList.mapM (fun | .tmp t => pure (tmps.getD t undef) | .cell p t => do loadVar t (← asAddr (tmps.getD p undef)) : ResultVar → Sem Value)).run P w = .ok vs w) (hp : PVRs N h ps vs) :
  ∃ v, (results fn tmps).run P w = .ok v w ∧ PVR N h (ansOf ps) v := by
 have hres : ∀ v, v = (if h : vs.toArray.size = 1 then vs.toArray[0] else .tuple vs.toArray) → (results fn tmps).run P w = .ok v w := fun v hv => by
  unfold results
  rw [Array.mapM_eq_mapM_toList, Sem.run_bind, Sem.run_map]
  refine Eq.trans (congrArg (fun r => Result.andThen (Result.andThen r _) _) hr) ?_
  rw [hv]; rfl
 match ps, hp with
 | [], hp =>
  rw [PVRs] at hp; subst hp
  exact ⟨.tuple #[], hres _ rfl, by show PVR N h (.tup []) _; rw [PVR]; exact ⟨[], rfl, by rw [PVRs]⟩⟩
 | [x], hp =>
  obtain ⟨v, rfl, hx⟩ := hp.one
  exact ⟨v, hres _ rfl, hx⟩
 | x :: y :: r, hp =>
  have hl := hp.len
  refine ⟨.tuple vs.toArray, hres _ ?_, by show PVR N h (.tup (x :: y :: r)) _; rw [PVR]; exact ⟨vs, rfl, hp⟩⟩
  rw [dif_neg (by simp [hl])]
theorem argsT_lk : ∀ (l : List PV) (i t : Nat), lk (argsT i l) t = if i ≤ t then l[t - i]? else none
 | [], i, t => by simp [argsT, lk]
 | x :: r, i, t => by
  rw [argsT, lk, argsT_lk r (i + 1) t]
  by_cases h : i = t
  ·subst h; simp
  ·rw [if_neg h]
   by_cases h2 : i ≤ t
   ·rw [if_pos (by omega), if_pos h2, show t - i = (t - (i + 1)) + 1 by omega]; rfl
   ·rw [if_neg (by omega), if_neg h2]
def EndF (P : Program) (ti : Tb) (G : List (Nat × List DV)) (fn : Func) (r1 : PV) (H1 : List (Nat × Ob)) (nb q : Nat) (s : St) : Prop :=
 holds P G (PWl P G fn.ntmps) (ansF ti fn s) (fun x => ∃ l fz os, holds P G (PWl P G fn.ntmps) (cln l fz os ⟨[(0, r1)], H1, nb + q, nb⟩ { x.2 with t := [(0, x.1)] }) (fun _ => True))
def EndG (P : Program) (ti : Tb) (G : List (Nat × List DV)) (fn : Func) (r1 : PV) (H1 : List (Nat × Ob)) (nb q : Nat) (s : St) : Prop :=
 holds P G (PWl P G fn.ntmps) (ansF ti fn s) (fun x => ∀ (C : Cx) (a : Act) (w : World), Rel G C 1 { x.2 with t := [(0, x.1)] } a w → Rel G C 1 ⟨[(0, r1)], H1, nb + q, nb⟩ a w)
theorem PRun.ofG (hti : TyOk P ti) (hm : P.follows .mixedOrders = true) {f : FuncId} {fn : Func} {c : Code} (hf : P.funcs[f]? = some fn) (hb : fn.body = some c) (hname : (fn.name == "runtime.NumGoroutine") = false)
  {xs : List PV} {H H1 : List (Nat × Ob)} {r1 : PV} {nb q : Nat} {f0 fr : List Nat}
  (hck : (named nb H && lowL nb xs && decide (xs.length ≤ fn.ntmps) && r1.low (nb + q) && H1.all fun x => decide (x.1 < nb + q) && x.2.low (nb + q)) = true)
  (hinj : ∀ a b, a < nb + q → b < nb + q → outer nb f0 fr a = outer nb f0 fr b → a = b) (hq : q ≤ fr.length)
  (h : PWp P G fn.ntmps c ⟨argsT 0 xs, H, nb, nb⟩ (fun e s' => match e with
   | .normal => EndG P ti G fn r1 H1 nb q s'
   | .ret => EndG P ti G fn r1 H1 nb q s'
   | _ => False)) :
  PRun P G f (renL (outer nb f0 fr) xs) (renM (outer nb f0 fr) H) fr (r1.ren (outer nb f0 fr)) (renM (outer nb f0 fr) H1) := by
 simp only [Bool.and_eq_true] at hck
 obtain ⟨⟨⟨⟨k1, k2⟩, k3⟩, k4⟩, k5⟩ := hck
 refine ⟨⟨fn, hf, by rw [hb]; rfl, hname⟩, fun F Xp dm N w vs hfrd hM hA => ?_⟩
 obtain ⟨m1, m2, m3⟩ := enter_mem hM k1 (fun a b ha hb' => hinj a b (by omega) (by omega))
 let C : Cx := ⟨F, Xp, w, N.inn nb (outer nb f0 fr), nb, fun b hb' => m1.dom b (fun hd => by
  rcases hd with hd | ⟨j, hj, _⟩
  ·omega
  ·cases hj)⟩
 have hargs : PVRs (N.inn nb (outer nb f0 fr)) (rd F (N.inn nb (outer nb f0 fr)) (lk H) w) xs vs := by
  rw [m2]; exact backL_ok xs vs k2 hA
 have hvl : vs.length = xs.length := hargs.len
 have hle : xs.length ≤ fn.ntmps := of_decide_eq_true k3
 have hrel : Rel G C fn.ntmps ⟨argsT 0 xs, H, nb, nb⟩ { tmps := vs.toArray ++ Array.replicate (fn.ntmps - vs.toArray.size) undef, defers := [] } w := by
  refine ⟨rfl, N.inn nb (outer nb f0 fr), m1, fun t => ?_, rfl, by simp; omega, Nm.up.refl _ _, Nat.le_refl _⟩
  show PVR _ _ ((lk (argsT 0 xs) t).getD .dead) _
  rw [argsT_lk, if_pos (Nat.zero_le _), Nat.sub_zero]
  cases ht : xs[t]? with
  | none => show PVR _ _ .dead _; rw [PVR]; trivial
  | some p =>
   obtain ⟨v, hv, hp⟩ := hargs.at ht
   have hlt : t < vs.length := (List.getElem?_eq_some_iff.1 hv).1
   have : (vs.toArray ++ Array.replicate (fn.ntmps - vs.toArray.size) undef).getD t undef = v := by
    rw [Array.getD_eq_getD_getElem?, Array.getElem?_append_left (by simpa using hlt), List.getElem?_toArray, hv]; rfl
   show PVR _ _ p _
   rw [this]; exact hp
 have fin : ∀ s' a' w', Rel G C fn.ntmps s' a' w' → EndG P ti G fn r1 H1 nb q s' →
   a'.defers = [] ∧ ∃ v, (results fn a'.tmps).run P w' = .ok v w' ∧ ∃ v' N', Ending.returned v = .returned v' ∧ Nm.up dm N N' ∧ Mem G F Xp (fun b => dm b ∨ b ∈ fr) w N' (lk (renM (outer nb f0 fr) H1)) w' ∧ PVR N' (rd F N' (lk (renM (outer nb f0 fr) H1)) w') (r1.ren (outer nb f0 fr)) v' := fun s' a' w' ⟨hn0, N1, hr⟩ hh => by
  unfold EndG ansF at hh
  rw [holds_bind] at hh
  obtain ⟨ps, l1, hy, hh⟩ := at_holds hh
  obtain ⟨us, u1, u2⟩ := res_ok hti hr _ _ _ _ hy
  obtain ⟨v, v1, v2⟩ := ans_run u1 u2
  refine ⟨hr.dfr, v, v1, ?_⟩
  have hr1 : Rel G C 1 { s' with t := [(0, ansOf ps)] } { tmps := #[v], defers := [] } w' := by
   refine ⟨hn0, N1, hr.mem, fun t => ?_, rfl, rfl, hr.old, hr.sub⟩
   show PVR _ _ ((lk [(0, ansOf ps)] t).getD .dead) _
   rw [lk]
   split
   ·rename_i e; subst e; exact v2
   ·rw [lk]; show PVR _ _ .dead _; rw [PVR]; trivial
  obtain ⟨_, N2, hr2⟩ := hh _ _ _ hr1
  have hv2 : PVR N2 (rd F N2 (lk H1) w') r1 v := hr2.tmp 0
  obtain ⟨N', x1, x2, x3⟩ := exit_mem (q := q) (e := outer nb f0 fr) (fr := fr) (dm := dm) (N := N) hr2.mem hr2.old hinj m3 (fun b hb' h' => hfrd b h' hb') (fun b h1 h2 => by
   unfold outer; rw [if_neg (by omega)]
   have hlt : b - nb < fr.length := by omega
   rw [List.getD_eq_getElem?_getD, List.getElem?_eq_getElem hlt]; exact List.getElem_mem hlt) hM.dom (fun x hx => by
   have := List.all_eq_true.1 k5 x hx
   rw [Bool.and_eq_true] at this
   exact ⟨of_decide_eq_true this.1, this.2⟩) k4 hv2
  exact ⟨v, N', rfl, x1, x2, x3⟩
 refine calls_of_wp hf hb (wp_mono (h C _ w hrel) (fun e a' w' ⟨s', h1, h2⟩ => ?_))
 cases e with
 | normal => exact fin s' a' w' h1 h2
 | ret => exact fin s' a' w' h1 h2
 | exit id => exact h2.elim
 | goto l => exact h2.elim
 | panic ch => exact h2.elim
 | outgrown => exact h2.elim
theorem holds_mono {α : Type} {PW : Code → St → (Exit → St → Prop) → Prop} (hPW : ∀ c s Q Q', (∀ e s', Q e s' → Q' e s') → PW c s Q → PW c s Q') : ∀ (t : Tr α) {Q Q' : α → Prop}, (∀ x, Q x → Q' x) → holds P G PW t Q → holds P G PW t Q'
 | .ret x, _, _, hq, h => hq x h
 | .fail _, _, _, _, h => h.elim
 | .ask _ k, _, _, hq, h => ⟨h.1, holds_mono hPW k hq h.2⟩
 | .br _ t e, _, _, hq, h => ⟨fun c => holds_mono hPW (t ()) hq (h.1 c), fun c => holds_mono hPW (e ()) hq (h.2 c)⟩
 | .get _ _ k, _, _, hq, h => ⟨h.1, h.2.imp fun e x => ⟨x.1, holds_mono hPW (k fun _ => e) hq x.2⟩⟩
 | .run _ k, _, _, hq, h => h.imp fun v x => ⟨x.1, x.2.1, holds_mono hPW (k fun _ => .lit v) hq x.2.2⟩
 | .call _ _ _ _ k, _, _, hq, h => h.imp fun r x => x.imp fun H' y => ⟨y.1, holds_mono hPW (k r H') hq y.2⟩
 | .loop c s k, _, _, hq, h => hPW c s _ _ (fun e s' hh => holds_mono hPW (k e s') hq hh) h
 | .obj _ _, _, _, _, h => h.elim
theorem PRun.ofP (hti : TyOk P ti) (hm : P.follows .mixedOrders = true) {f : FuncId} {fn : Func} {c : Code} (hf : P.funcs[f]? = some fn) (hb : fn.body = some c) (hname : (fn.name == "runtime.NumGoroutine") = false)
  {xs : List PV} {H H1 : List (Nat × Ob)} {r1 : PV} {nb q : Nat} {f0 fr : List Nat}
  (hck : (named nb H && lowL nb xs && decide (xs.length ≤ fn.ntmps) && r1.low (nb + q) && H1.all fun x => decide (x.1 < nb + q) && x.2.low (nb + q)) = true)
  (hinj : ∀ a b, a < nb + q → b < nb + q → outer nb f0 fr a = outer nb f0 fr b → a = b) (hq : q ≤ fr.length)
  (h : PWp P G fn.ntmps c ⟨argsT 0 xs, H, nb, nb⟩ (fun e s' => match e with
   | .normal => EndF P ti G fn r1 H1 nb q s'
   | .ret => EndF P ti G fn r1 H1 nb q s'
   | _ => False)) :
  PRun P G f (renL (outer nb f0 fr) xs) (renM (outer nb f0 fr) H) fr (r1.ren (outer nb f0 fr)) (renM (outer nb f0 fr) H1) :=
 PRun.ofG hti hm hf hb hname hck hinj hq (h.mono (fun e s' h => by
  have key : EndF P ti G fn r1 H1 nb q s' → EndG P ti G fn r1 H1 nb q s' := fun h => by
   unfold EndF at h; unfold EndG
   refine holds_mono (PW := PWl P G fn.ntmps) (fun c s Q Q' hQ h => PWp.mono (c := .loop c) h hQ) _ (fun x hh C a w hr => ?_) h
   obtain ⟨l, fz, os, hh⟩ := hh
   exact cln_ok hh hr
  cases e with
  | normal => exact key h
  | ret => exact key h
  | _ => exact h))
theorem PRun.of (hti : TyOk P ti) (hm : P.follows .mixedOrders = true) {f : FuncId} {fn : Func} {c : Code} (hf : P.funcs[f]? = some fn) (hb : fn.body = some c) (hname : (fn.name == "runtime.NumGoroutine") = false)
  {xs : List PV} {H H1 : List (Nat × Ob)} {r1 : PV} {nb q : Nat} {f0 fr : List Nat}
  (hck : (named nb H && lowL nb xs && decide (xs.length ≤ fn.ntmps) && r1.low (nb + q) && H1.all fun x => decide (x.1 < nb + q) && x.2.low (nb + q)) = true)
  (hinj : ∀ a b, a < nb + q → b < nb + q → outer nb f0 fr a = outer nb f0 fr b → a = b) (hq : q ≤ fr.length)
  (h : holds P G (PWl P G fn.ntmps) (evF ti G fn c xs H nb) (fun x => ∃ l fz os, holds P G (PWl P G fn.ntmps) (cln l fz os ⟨[(0, r1)], H1, nb + q, nb⟩ { x.2 with t := [(0, x.1)] }) (fun _ => True))) :
  PRun P G f (renL (outer nb f0 fr) xs) (renM (outer nb f0 fr) H) fr (r1.ren (outer nb f0 fr)) (renM (outer nb f0 fr) H1) := by
 refine PRun.ofP hti hm hf hb hname hck hinj hq ?_
 unfold evF at h
 rw [holds_bind] at h
 refine (ev_ok hti hm c _ _ h).mono (fun e s' h2 => ?_)
 cases e with
 | normal => exact h2
 | ret => exact h2
 | _ => exact h2.elim
theorem PRun.pure (hti : TyOk P ti) (hm : P.follows .mixedOrders = true) {f : FuncId} {fn : Func} {c : Code} (hf : P.funcs[f]? = some fn) (hb : fn.body = some c) (hname : (fn.name == "runtime.NumGoroutine") = false)
  {xs : List PV} {r1 : PV} {fr : List Nat} (hck : (lowL 0 xs && decide (xs.length ≤ fn.ntmps) && r1.low 0) = true)
  (h : holds P G (PWl P G fn.ntmps) (evF ti G fn c xs [] 0) (fun x => ∃ l fz os, holds P G (PWl P G fn.ntmps) (cln l fz os ⟨[(0, r1)], [], 0, 0⟩ { x.2 with t := [(0, x.1)] }) (fun _ => True))) :
  PRun P G f (renL (outer 0 [] fr) xs) [] fr (r1.ren (outer 0 [] fr)) [] := by
 simp only [Bool.and_eq_true] at hck
 exact PRun.of (q := 0) (H := []) (H1 := []) hti hm hf hb hname (by simp only [Bool.and_eq_true]; exact ⟨⟨⟨⟨rfl, hck.1.1⟩, hck.1.2⟩, hck.2⟩, rfl⟩) (fun a b ha => by omega) (Nat.zero_le _) h
theorem loop_ok (hti : TyOk P ti) (hm : P.follows .mixedOrders = true) {ι : Type} {c : Code} {s : St} {Q : Exit → St → Prop} (I : ι → St) (μ : ι → Nat) (x0 : ι) (h0 : ∃ l fz os, holds P G (PWl P G nt) (cln l fz os (I x0) s) (fun _ => True))
  (round : ∀ x, holds P G (PWl P G nt) (ev ti G nt c (I x)) (fun q => match q.1 with
   | .normal => ∃ y l fz os, μ y < μ x ∧ holds P G (PWl P G nt) (cln l fz os (I y) q.2) (fun _ => True)
   | e => Q e q.2)) : PWl P G nt c s Q := by
 obtain ⟨l, fz, os, h0⟩ := h0
 refine pwp_loop I μ x0 (fun C a w hr => cln_ok h0 hr) (fun x => (ev_ok hti hm c (I x) _ (round x)).mono (fun e s' hq => ?_))
 cases e with
 | normal =>
  obtain ⟨y, l, fz, os, h1, h2⟩ := hq
  exact ⟨y, h1, fun C a w hr => cln_ok h2 hr⟩
 | _ => exact hq
theorem pwp_seq {x y : Code} {s : St} {Q : Exit → St → Prop} (h : PWp P G nt x s (fun e s' => match e with
  | .normal => PWp P G nt y s' Q
  | e => Q e s')) : PWp P G nt (.seq x y) s Q := fun C a w hr =>
 wp_seq (wp_mono (h C a w hr) (fun e a' w' ⟨s', h1, h2⟩ => by
  cases e with
  | normal => exact h2 C a' w' h1
  | _ => exact ⟨s', h1, h2⟩))
theorem pwp_cln {c : Code} {s q : St} {Q : Exit → St → Prop} (h : ∃ l fz os, holds P G (PWl P G nt) (cln l fz os q s) (fun _ => True)) (k : PWp P G nt c q Q) : PWp P G nt c s Q := fun C a w hr => by
 obtain ⟨l, fz, os, h⟩ := h
 exact k C a w (cln_ok h hr)
theorem pwp_cut {ι : Type} (J : ι → St) (φ : ι → Prop) {x y : Code} {s : St} {Q : Exit → St → Prop} (h : PWp P G nt x s (fun e s' => match e with
  | .normal => ∃ i l fz os, φ i ∧ holds P G (PWl P G nt) (cln l fz os (J i) s') (fun _ => True)
  | e => Q e s')) (k : ∀ i, φ i → PWp P G nt y (J i) Q) : PWp P G nt (.seq x y) s Q :=
 pwp_seq (h.mono (fun e s' h' => by
  cases e with
  | normal =>
   obtain ⟨i, l, fz, os, h1, h2⟩ := h'
   exact pwp_cln ⟨l, fz, os, h2⟩ (k i h1)
  | _ => exact h'))
end
end Go.Proofs.YtlmbcoecipbblaaGreatDoor
namespace Go.Proofs.YtlmbcoecipbblaaGreatDoor
open Go.RowKit
structure MT where
 l : List (Nat × Nat)
 f : List Nat
def hasP : List (Nat × Nat) → Nat → Nat → Bool
 | [], _, _ => false
 | (a, b) :: r, x, y => (a == x && b == y) || hasP r x y
def MT.add (m : MT) (a b : Nat) : MT := bif hasP m.l a b then m else ⟨m.l ++ [(a, b)], m.f⟩
def MT.giv (m : MT) (a : Nat) : MT := ⟨m.l, a :: m.f⟩
mutual
def mtP : PV → PV → MT → MT
 | .ptr b _, .ptr b' _, m => m.add b b'
 | .own r k, .own r' k', m => (m.add r r').add k k'
 | .rpt r k _ _ _, .rpt r' k' _ _ _, m => (m.add r r').add k k'
 | .agg cs, .agg cs', m => mtL cs cs' m
 | .tup cs, .tup cs', m => mtL cs cs' m
 | .fn _ xs ys, .fn _ xs' ys', m => mtL ys ys' (mtL xs xs' m)
 | .ifp _ x, .ifp _ x', m => mtP x x' m
 | .ptr b _, .d _, m => m.giv b
 | .own r _, .d _, m => m.giv r
 | .ifp _ x, .d y, m => mtP x (.d y) m
 | _, _, m => m
def mtL : List PV → List PV → MT → MT
 | p :: r, q :: s, m => mtL r s (mtP p q m)
 | _, _, m => m
end
def mtT (s : St) : List (Nat × PV) → MT → MT
 | [], m => m
 | (i, p) :: r, m => mtT s r (mtP (s.T i) p m)
def mtW (sm qm : List (Nat × Ob)) : Nat → Nat → MT → MT
 | 0, _, m => m
 | n + 1, i, m => match m.l[i]? with
  | none => m
  | some (b, b') => match lk sm b, lk qm b' with
   | some (.blk cs), some (.blk cs') => mtW sm qm n (i + 1) (mtL cs cs' m)
   | some (.row k _ _ _), some (.row k' _ _ _) => mtW sm qm n (i + 1) (m.add k k')
   | _, _ => mtW sm qm n (i + 1) m
def mtB (m : MT) (q s : St) : Tr Unit := cln (m.l.filter fun x => s.n0 ≤ x.1) m.f (m.l.map (·.1)) q s
def lows (n0 : Nat) : List (Nat × Ob) → List (Nat × Nat)
 | [] => []
 | (b, _) :: r => bif Nat.blt b n0 then (b, b) :: lows n0 r else lows n0 r
def mtS (q s : St) : MT := mtW s.m q.m 60 0 (mtT s q.t ⟨lows s.n0 q.m, []⟩)
def clnA0 (q s : St) : Tr Unit := mtB (mtS q s) q s
def IsN (x : DV) : Prop := x = .lit (.slice none 0 0)
def askN (s : St) : List Nat → Tr Unit
 | [] => .ret ()
 | i :: l => match s.T i with
  | .d x => .ask (fun _ => IsN (x ())) (askN s l)
  | _ => .fail 120
def setN (r k : Nat) : List (Nat × Nat) → List (Nat × Ob) → Tr (List (Nat × Ob))
 | [], m => .ret m
 | (b, j) :: l, m => match lk m b with
  | some (.blk cs) => match cs[j]? with
   | some (.d x) => .ask (fun _ => IsN (x ())) (setN r k l ((b, .blk (cs.set j (.own r k))) :: m))
   | _ => .fail 121
  | _ => .fail 122
def born (is : List Nat) (bs : List (Nat × Nat)) (t : TypeId) (n : Nat) (s : St) : Tr St := (askN s is).bind fun _ => (setN s.nx (s.nx + 1) bs ((s.nx, .row (s.nx + 1) t n fun _ => []) :: s.m)).bind fun m => .ret ⟨(is.map fun i => (i, .own s.nx (s.nx + 1))) ++ s.t, m, s.nx + 2, s.n0⟩
abbrev BL := List (Nat × List Nat × List (Nat × Nat))
def brAdd (r : Nat) (i : List Nat) (c : List (Nat × Nat)) : BL → BL
 | [] => [(r, i, c)]
 | (x, is, cs) :: l => bif x == r then (x, i ++ is, c ++ cs) :: l else (x, is, cs) :: brAdd r i c l
def brT (s : St) : List (Nat × PV) → BL → BL
 | [], l => l
 | (i, .own r _) :: t, l => match s.T i with
  | .d _ => brT s t (brAdd r [i] [] l)
  | _ => brT s t l
 | _ :: t, l => brT s t l
def brC (b : Nat) : Nat → List PV → List PV → BL → BL
 | j, .d _ :: p, .own r _ :: q, l => brC b (j + 1) p q (brAdd r [] [(b, j)] l)
 | j, _ :: p, _ :: q, l => brC b (j + 1) p q l
 | _, _, _, l => l
def brM (sm qm : List (Nat × Ob)) : List (Nat × Nat) → BL → BL
 | [], l => l
 | (b, b') :: r, l => match lk sm b, lk qm b' with
  | some (.blk cs), some (.blk cs') => brM sm qm r (brC b 0 cs cs' l)
  | _, _ => brM sm qm r l
def bornL (qm : List (Nat × Ob)) : BL → St → (St → Tr Unit) → Tr Unit
 | [], s, f => f s
 | (r, is, cs) :: l, s, f => match lk qm r with
  | some (.row _ t n _) => (born is cs t n s).bind fun s' => bornL qm l s' f
  | _ => .fail 123
def clnA (q s : St) : Tr Unit := bornL q.m (brM s.m q.m (mtS q s).l (brT s q.t [])) s (clnA0 q)
section
variable {P : Program} {ti : Tb} {G : List (Nat × List DV)} {nt : Nat} {PW : Code → St → (Exit → St → Prop) → Prop}
theorem clnA_ex {Q : Unit → Prop} {q s : St} (h : holds P G PW (clnA0 q s) Q) : ∃ l fz os, holds P G PW (cln l fz os q s) Q := ⟨_, _, _, h⟩
theorem IsN.v {N : Nm} {h : Frag} {x : Unit → DV} {v : Value} (hx : IsN (x ())) (hp : PVR N h (.d x) v) : v = .slice none 0 0 := by
 rw [PVR, hx, DR] at hp; exact hp.1
theorem askN_ok {Q : Unit → Prop} {s : St} : ∀ (is : List Nat), holds P G PW (askN s is) Q → Q () ∧ ∀ i ∈ is, ∃ x, s.T i = .d x ∧ IsN (x ())
 | [], h => ⟨h, fun i hi => by cases hi⟩
 | j :: l, h => by
  rw [askN] at h
  split at h
  ·rename_i x hx
   obtain ⟨h1, h2⟩ := askN_ok l h.2
   exact ⟨h1, fun i hi => by rcases List.mem_cons.1 hi with rfl | hi; (· exact ⟨x, hx, h.1⟩); exact h2 i hi⟩
  ·exact h.elim
theorem PVRs.set {N : Nm} {h : Frag} {p' : PV} : ∀ {cs : List PV} {ws : List Value} {j : Nat} {p : PV}, PVRs N h cs ws → cs[j]? = some p → (∀ v, PVR N h p v → PVR N h p' v) → PVRs N h (cs.set j p') ws
 | c :: r, ws, 0, p, hp, hj, hs => by
  cases hj
  rw [PVRs] at hp
  obtain ⟨v, vs, rfl, h1, h2⟩ := hp
  rw [List.set_cons_zero, PVRs]; exact ⟨v, vs, rfl, hs v h1, h2⟩
 | c :: r, ws, j + 1, p, hp, hj, hs => by
  rw [PVRs] at hp
  obtain ⟨v, vs, rfl, h1, h2⟩ := hp
  rw [List.set_cons_succ, PVRs]; exact ⟨v, vs, rfl, h1, PVRs.set (cs := r) (j := j) h2 (by simpa using hj) hs⟩
theorem setN_ok {Q : List (Nat × Ob) → Prop} {r k : Nat} {F Xp dm : Nat → Prop} {w0 w : World} {N : Nm} (hN : N.V r k = some (.slice none 0 0)) : ∀ (l : List (Nat × Nat)) (m : List (Nat × Ob)), Mem G F Xp dm w0 N (lk m) w → holds P G PW (setN r k l m) Q → ∃ m', Q m' ∧ Mem G F Xp dm w0 N (lk m') w ∧ FLe (rd F N (lk m) w) (rd F N (lk m') w)
 | [], m, hm, h => ⟨m, h, hm, FLe.refl _⟩
 | (b, j) :: l, m, hm, h => by
  rw [setN] at h
  split at h
  ·rename_i cs hb
   split at h
   ·rename_i x hx
    obtain ⟨h1, h2⟩ := mem_le (M' := lk ((b, .blk (cs.set j (.own r k))) :: m)) hm (fun c ob' hc => by
     rw [lk] at hc
     split at hc
     ·rename_i e; subst e; cases hc
      refine ⟨_, hb, rfl, fun hh ⟨g, ws, q1, q2, q3, q4⟩ => ⟨g, ws, q1, q2, q3.set hx (fun v hv => ?_), q4⟩⟩
      rw [h.1.v hv, PVR]; exact ⟨hN, rfl⟩
     ·exact ⟨ob', hc, rfl, fun _ hh => hh⟩)
    obtain ⟨m', q1, q2, q3⟩ := setN_ok hN l _ h1 h.2
    exact ⟨m', q1, q2, h2.trans q3⟩
   ·exact h.elim
  ·exact h.elim
theorem born_ok {Q : St → Prop} {is : List Nat} {bs : List (Nat × Nat)} {t n : Nat} {s : St} {C : Cx} {nt : Nat} {a : Act} {w : World} (h : holds P G PW (born is bs t n s) Q) (hr : Rel G C nt s a w) : ∃ s', Q s' ∧ Rel G C nt s' a w := by
 obtain ⟨hn0, N, hr⟩ := hr
 unfold born at h
 rw [holds_bind] at h
 obtain ⟨h1, h2⟩ := askN_ok is h
 rw [holds_bind] at h1
 have hnd : ∀ b, s.nx ≤ b → ¬ nmD s.nx (fun _ => false) b := fun b hb hd => by
  rcases hd with hd | ⟨j, hj, _⟩
  ·omega
  ·cases hj
 have hup : ∀ b, nmD s.nx (fun _ => false) b → nmD (s.nx + 2) (fun _ => false) b := fun b hd => by
  rcases hd with hd | ⟨j, hj, _⟩
  ·exact .inl (by omega)
  ·cases hj
 obtain ⟨m1, m2⟩ := hr.mem.row (dm' := nmD (s.nx + 2) fun _ => false) hup (r := s.nx) (k := s.nx + 1) (hnd _ (by omega)) (.inl (by omega)) (.inl (by omega)) (t := t) (n := n) (es := fun _ => []) (ess := []) (v := .slice none 0 0) (w' := w) none (World.grownBy.refl w none) (fun g e => by cases e) (.inl rfl) (World.ownsRow_nil w 0 t n) (by rw [DRss]) (fun e he => by cases he)
 have hov : ovr (lk s.m) [(s.nx, some (.row (s.nx + 1) t n fun _ => []))] = lk ((s.nx, .row (s.nx + 1) t n fun _ => []) :: s.m) := funext fun b => by
  rw [lk, ovr_one]
  by_cases e : s.nx = b
  ·rw [if_pos e, if_pos e.symm]
  ·rw [if_neg e, if_neg (fun x => e x.symm)]
 rw [show s.fs.M = lk s.m from rfl, hov] at m1 m2
 have hV : (N.setV s.nx (s.nx + 1) (.slice none 0 0)).V s.nx (s.nx + 1) = some (.slice none 0 0) := if_pos ⟨rfl, rfl⟩
 obtain ⟨m', q1, q2, q3⟩ := setN_ok hV bs _ m1 h1
 have hle := Nm.le_setV (v := .slice none 0 0) ((hr.mem.dom (s.nx + 1) (hnd _ (by omega))).2 s.nx).1
 have hold : Nm.up (fun b => b < C.n0) N (N.setV s.nx (s.nx + 1) (.slice none 0 0)) := Nm.up_setV ((hr.mem.dom (s.nx + 1) (hnd _ (by omega))).2 s.nx).1 (by have := hr.sub; omega)
 refine ⟨_, q1, hn0, N.setV s.nx (s.nx + 1) (.slice none 0 0), q2, fun i => ?_, hr.dfr, hr.sz, hr.old.trans hold (fun b hb => hb), Nat.le_trans hr.sub (Nat.le_add_right _ _)⟩
 have hi := PVR.mono hle (m2.trans q3) _ _ (hr.tmp i)
 show PVR _ _ ((lk ((is.map fun i => (i, PV.own s.nx (s.nx + 1))) ++ s.t) i).getD .dead) _
 have hsplit : ∀ l : List Nat, lk ((l.map fun i => (i, PV.own s.nx (s.nx + 1))) ++ s.t) i = if i ∈ l then some (.own s.nx (s.nx + 1)) else lk s.t i := fun l => by
  induction l with
  | nil => rw [if_neg (by simp)]; rfl
  | cons x l ih =>
   rw [List.map_cons, List.cons_append, lk]
   by_cases e : x = i
   ·rw [if_pos e, if_pos (by rw [e]; exact List.mem_cons_self ..)]
   ·rw [if_neg e, ih]
    by_cases e2 : i ∈ l
    ·rw [if_pos e2, if_pos (List.mem_cons_of_mem _ e2)]
    ·rw [if_neg e2, if_neg (fun hm => (List.mem_cons.1 hm).elim (fun x => e x.symm) e2)]
 rw [hsplit]
 by_cases e : i ∈ is
 ·rw [if_pos e]
  obtain ⟨x, h3, h4⟩ := h2 i e
  have h5 : s.fs.T i = .d x := h3
  rw [h5] at hi
  show PVR _ _ (.own s.nx (s.nx + 1)) _
  rw [h4.v hi, PVR]; exact ⟨hV, rfl⟩
 ·rw [if_neg e]; exact hi
theorem bornL_ok {q : St} {C : Cx} {nt : Nat} {a : Act} {w : World} : ∀ (l : BL) (s : St), holds P G PW (bornL q.m l s (clnA0 q)) (fun _ => True) → Rel G C nt s a w → Rel G C nt q a w
 | [], s, h, hr => cln_ok h hr
 | (r, is, cs) :: l, s, h, hr => by
  rw [bornL] at h
  split at h
  ·rw [holds_bind] at h
   obtain ⟨s', h1, h2⟩ := born_ok h hr
   exact bornL_ok l s' h1 h2
  ·exact h.elim
theorem clnA_ok {q s : St} {C : Cx} {nt : Nat} {a : Act} {w : World} (h : holds P G PW (clnA q s) (fun _ => True)) (hr : Rel G C nt s a w) : Rel G C nt q a w := bornL_ok _ s h hr
def Knows (s : St) : Prop := (∀ i x l, s.T i = .d x → x () = .sl l → l.length ≤ 9223372036854775807) ∧ ∀ (b : Nat) (cs : List PV) (j : Nat) (x : Unit → DV) (l : List (List DV)), lk s.m b = some (.blk cs) → cs[j]? = some (.d x) → x () = .sl l → l.length ≤ 9223372036854775807
theorem DR.sl_len {h : Frag} {l : List (List DV)} {v : Value} (hx : DR h (.sl l) v) : l.length ≤ 9223372036854775807 := by
 rw [DR] at hx
 obtain ⟨s, ess, h1, h2⟩ := hx
 obtain ⟨a, c, _, h3, h4, _⟩ := h1.len
 rw [← h2.len]
 have : maxLen = 9223372036854775807 := rfl
 omega
theorem Rel.knows {s : St} {C : Cx} {a : Act} {w : World} (h : Rel G C nt s a w) : Knows s := by
 obtain ⟨_, N, hr⟩ := h
 refine ⟨fun i x l e1 e2 => ?_, fun b cs j x l e1 e2 e3 => ?_⟩
 ·have := hr.tmp i
  rw [show s.fs.T i = .d x from e1, PVR, e2] at this
  exact this.sl_len
 ·obtain ⟨g, ws, _, _, h1, _⟩ := hr.mem.obj b _ e1
  obtain ⟨v, _, h2⟩ := h1.at e2
  rw [PVR, e3] at h2
  exact h2.sl_len
theorem loop_okK (hti : TyOk P ti) (hm : P.follows .mixedOrders = true) {ι : Type} {c : Code} {s : St} {Q : Exit → St → Prop} (I : ι → St) (μ : ι → Nat) (x0 : ι) (h0 : holds P G (PWl P G nt) (clnA (I x0) s) (fun _ => True))
  (round : ∀ x, Knows (I x) → holds P G (PWl P G nt) (ev ti G nt c (I x)) (fun q => match q.1 with
   | .normal => ∃ y, μ y < μ x ∧ holds P G (PWl P G nt) (clnA (I y) q.2) (fun _ => True)
   | e => ∃ q', holds P G (PWl P G nt) (clnA q' q.2) (fun _ => True) ∧ Q e q')) : PWl P G nt c s Q := by
 have h1 : PWp P G nt (.loop c) s (fun e s' => ∃ q', (∀ C a w, Rel G C nt s' a w → Rel G C nt q' a w) ∧ Q e q') := by
  refine pwp_loop I μ x0 (fun C a w hr => clnA_ok h0 hr) (fun x C a w hr => ((ev_ok hti hm c (I x) _ (round x hr.knows)).mono (fun e s' hq => ?_)) C a w hr)
  cases e with
  | normal =>
   obtain ⟨y, h1, h2⟩ := hq
   exact ⟨y, h1, fun C a w hr => clnA_ok h2 hr⟩
  | _ =>
   obtain ⟨q', h1, h2⟩ := hq
   exact ⟨q', fun C a w hr => clnA_ok h1 hr, h2⟩
 intro C a w hr
 exact wp_mono (h1 C a w hr) (fun e a' w' ⟨s', k1, q', k2, k3⟩ => ⟨q', k2 _ _ _ k1, k3⟩)
theorem loop_okC (hti : TyOk P ti) (hm : P.follows .mixedOrders = true) {ι : Type} {c : Code} {s : St} {Q : Exit → St → Prop} (I : ι → St) (μ : ι → Nat) (x0 : ι) (h0 : holds P G (PWl P G nt) (clnA (I x0) s) (fun _ => True))
  (round : ∀ x, holds P G (PWl P G nt) (ev ti G nt c (I x)) (fun q => match q.1 with
   | .normal => ∃ y, μ y < μ x ∧ holds P G (PWl P G nt) (clnA (I y) q.2) (fun _ => True)
   | e => ∃ q', holds P G (PWl P G nt) (clnA q' q.2) (fun _ => True) ∧ Q e q')) : PWl P G nt c s Q := loop_okK hti hm I μ x0 h0 (fun x _ => round x)
theorem PRun.know {f : FuncId} {xs : List PV} {H H' : List (Nat × Ob)} {fr : List Nat} {r : PV} (p : Prop) (hf : ∃ fn, P.funcs[f]? = some fn ∧ fn.body.isSome = true ∧ (fn.name == "runtime.NumGoroutine") = false) (hp : ∀ N h vs, PVRs N h xs vs → p) (h : p → PRun P G f xs H fr r H') : PRun P G f xs H fr r H' :=
 ⟨hf, fun F Xp dm N w vs h1 h2 h3 => (h (hp _ _ _ h3)).2 F Xp dm N w vs h1 h2 h3⟩
theorem PRun.more {G' : List (Nat × List DV)} {f : FuncId} {xs : List PV} {H H' : List (Nat × Ob)} {fr : List Nat} {r : PV} (h : PRun P G f xs H fr r H') (hG : ∀ x ∈ G, x ∈ G') : PRun P G' f xs H fr r H' := by
 refine ⟨h.1, fun F Xp dm N w vs hfr hM hA => ?_⟩
 let X : Nat → Prop := fun g => ∃ b ob, lk H b = some ob ∧ adr N b ob = some g
 have hX : ∀ g, X g → ¬ F g ∧ Xp g := fun g ⟨b, ob, h1, h2⟩ => by
  have h3 := hM.at_ b ob g h1 h2
  have h4 := (hM.obj b ob h1).lt h2
  exact ⟨h3.1, h3.2.resolve_left (by omega)⟩
 refine (h.2 F X dm N w vs hfr ⟨Ext.refl _ _, hM.flt, hM.obj, hM.apart, fun b ob g h1 h2 => ⟨(hM.at_ b ob g h1 h2).1, .inr ⟨b, ob, h1, h2⟩⟩, hM.dom, fun g cs hg => hM.glob g cs (hG _ hg)⟩ hA).mono ?_
 rintro e w' ⟨v, N', rfl, h1, h2, h3⟩
 have hE : Ext Xp w w' := ⟨h2.ext.os, h2.ext.tape, h2.ext.output, h2.ext.size, fun k hk hn => h2.ext.block k hk (fun hx => hn (hX k hx).2)⟩
 have hl : FLe (rd F N (lk H) w) (rd F N' (lk H') w') := fun k o hk => by
  obtain ⟨q1, q2⟩ := fragX_some hk
  have hlt : k < w.heap.size := (Array.getElem?_eq_some_iff.1 q2).1
  have hnX : ¬ X k := fun hx => q1 (.inr hx)
  refine fragX_of (fun hh => ?_) ((h2.ext.block k hlt hnX).trans q2)
  rcases hh with hh | ⟨b, ob, r1, r2⟩
  ·exact q1 (.inl hh)
  ·rcases (h2.at_ b ob k r1 r2).2 with r3 | r3
   ·omega
   ·exact hnX r3
 exact ⟨v, N', rfl, h1, ⟨hE, h2.flt, h2.obj, h2.apart, fun b ob g q1 q2 => ⟨(h2.at_ b ob g q1 q2).1, (h2.at_ b ob g q1 q2).2.imp id (fun hx => (hX g hx).2)⟩, h2.dom, fun g cs hg => (hM.glob g cs hg).mono hl⟩, h3⟩
theorem outer_inj {nb q : Nat} {f0 fr : List Nat} (h0 : f0.length = nb) (hq : q ≤ fr.length) (hn : (f0 ++ fr).Nodup) (a b : Nat) (ha : a < nb + q) (hb : b < nb + q) (h : outer nb f0 fr a = outer nb f0 fr b) : a = b := by
 have key : ∀ x, x < nb + q → outer nb f0 fr x = (f0 ++ fr)[x]?.getD 0 ∧ x < (f0 ++ fr).length := fun x hx => by
  refine ⟨?_, by rw [List.length_append]; omega⟩
  unfold outer
  split
  ·rename_i h1; rw [List.getD_eq_getElem?_getD, List.getElem?_append_left (by omega)]
  ·rename_i h1; rw [List.getD_eq_getElem?_getD, List.getElem?_append_right (by omega), h0]
 obtain ⟨e1, l1⟩ := key a ha
 obtain ⟨e2, l2⟩ := key b hb
 rw [e1, e2, List.getElem?_eq_getElem l1, List.getElem?_eq_getElem l2] at h
 have hp := List.pairwise_iff_getElem.1 hn
 have h : (f0 ++ fr)[a] = (f0 ++ fr)[b] := by simpa using h
 rcases Nat.lt_trichotomy a b with hlt | rfl | hlt
 ·exact absurd h (hp a b l1 l2 hlt)
 ·rfl
 ·exact absurd h.symm (hp b a l2 l1 hlt)
theorem PRun.ofA (hti : TyOk P ti) (hm : P.follows .mixedOrders = true) {f : FuncId} {fn : Func} {c : Code} (hf : P.funcs[f]? = some fn) (hb : fn.body = some c) (hname : (fn.name == "runtime.NumGoroutine") = false)
  {xs : List PV} {H H1 : List (Nat × Ob)} {r1 : PV} {nb q : Nat} {f0 fr : List Nat}
  (hck : (named nb H && lowL nb xs && decide (xs.length ≤ fn.ntmps) && r1.low (nb + q) && H1.all fun x => decide (x.1 < nb + q) && x.2.low (nb + q)) = true)
  (h0 : f0.length = nb) (hq : q ≤ fr.length) (hn : (f0 ++ fr).Nodup)
  (h : holds P G (PWl P G fn.ntmps) (evF ti G fn c xs H nb) (fun x => holds P G (PWl P G fn.ntmps) (clnA ⟨[(0, r1)], H1, nb + q, nb⟩ { x.2 with t := [(0, x.1)] }) (fun _ => True))) :
  PRun P G f (renL (outer nb f0 fr) xs) (renM (outer nb f0 fr) H) fr (r1.ren (outer nb f0 fr)) (renM (outer nb f0 fr) H1) := by
 refine PRun.ofG hti hm hf hb hname hck (outer_inj h0 hq hn) hq ?_
 unfold evF at h
 rw [holds_bind] at h
 refine (ev_ok hti hm c _ _ h).mono (fun e s' h2 => ?_)
 have key : holds P G (PWl P G fn.ntmps) (ansF ti fn s') (fun x => holds P G (PWl P G fn.ntmps) (clnA ⟨[(0, r1)], H1, nb + q, nb⟩ { x.2 with t := [(0, x.1)] }) (fun _ => True)) → EndG P ti G fn r1 H1 nb q s' := fun h => by
  unfold EndG
  exact holds_mono (PW := PWl P G fn.ntmps) (fun c s Q Q' hQ h => PWp.mono (c := .loop c) h hQ) _ (fun x hh C a w hr => clnA_ok hh hr) h
 cases e with
 | normal => exact key h2
 | ret => exact key h2
 | _ => exact h2.elim
theorem hLoop {α : Type} {PW : Code → St → (Exit → St → Prop) → Prop} {Q : α → Prop} {c : Code} {s : St} {k : Exit → St → Tr α} (h : PW c s (fun e s' => holds P G PW (k e s') Q)) : holds P G PW (.loop c s k) Q := h
end
end Go.Proofs.YtlmbcoecipbblaaGreatDoor
namespace Go.Proofs.YtlmbcoecipbblaaGreatDoor
open Go.RowKit
section
variable {α : Type} {P : Program} {G : List (Nat × List DV)} {PW : Code → St → (Exit → St → Prop) → Prop} {Q : α → Prop}
theorem hN {t t' : Tr α} (k : holds P G PW t' Q) (h : t = t' := by conv => lhs; cbv) : holds P G PW t Q := h ▸ k
theorem hCall {f : FuncId} {xs : List PV} {H : List (Nat × Ob)} {fr : List Nat} {k : PV → List (Nat × Ob) → Tr α} {r : PV} {H' : List (Nat × Ob)} (h : PRun P G f xs H fr r H') (hk : holds P G PW (k r H') Q) : holds P G PW (.call f xs H fr k) Q := ⟨r, H', h, hk⟩
end
theorem PRun.args {P : Program} {G : List (Nat × List DV)} {f : FuncId} {args args' : List PV} {H H' : List (Nat × Ob)} {fr : List Nat} {r : PV} (h : PRun P G f args H fr r H') (hA : ∀ N h vs, PVRs N h args' vs → PVRs N h args vs) : PRun P G f args' H fr r H' :=
 ⟨h.1, fun F Xp dm N w vs h1 h2 h3 => h.2 F Xp dm N w vs h1 h2 (hA _ _ _ h3)⟩
theorem hCallL {α : Type} {P : Program} {G : List (Nat × List DV)} {PW : Code → St → (Exit → St → Prop) → Prop} {Q : α → Prop} {f : FuncId} {xs xs' : List PV} {H : List (Nat × Ob)} {fr : List Nat} {k : PV → List (Nat × Ob) → Tr α} {r : PV} {H' : List (Nat × Ob)} (h : PRun P G f xs H fr r H') (hl : holds P G PW (leL xs' xs) (fun _ => True)) (hk : holds P G PW (k r H') Q) : holds P G PW (.call f xs' H fr k) Q :=
 ⟨r, H', h.args (fun N h vs => (leL_ok _ _ hl).2 N h vs), hk⟩
theorem eq_T {p : Prop} (h : p) : p = True := propext ⟨fun _ => trivial, fun _ => h⟩
theorem eR : (∀ l, IsS (.sl l) = True) ∧ (∀ k n, IsI (.lit (.int k n)) = True) ∧ (∀ b, IsB (.lit (.bool b)) = True) ∧ (∀ l, IsP (.pt l) = True) ∧ (∀ v, IsL (.lit v) = True) ∧ (∀ n, IsJ (.lit (.int .i64 n)) = True) ∧
  (∀ l, lenD (.sl l) = l.length) ∧ (∀ s, lenD (.lit (.string s)) = s.size) ∧ (∀ a n c, lenD (.lit (.slice a n c)) = n) ∧ (∀ l, DV.es (.sl l) = l) ∧ (∀ l, DV.ps (.pt l) = l) ∧ (∀ k n, intD (.lit (.int k n)) = n) ∧ (∀ b, boolOf (.lit (.bool b)) = b) ∧ (∀ v, DV.vl (.lit v) = v) ∧ (∀ x, getD' (some x) = x) ∧
  (∀ tk op x y z, bopD tk op x y = some z → BopOk tk op x y = True) ∧
  (∀ x, LeD x x = True) ∧ (∀ x, LeR x x = True) ∧ (∀ l, (∃ a n c, DV.sl l = .lit (.slice a n c)) = False) ∧ (∀ a n c, (∃ b m d, DV.lit (.slice a n c) = .lit (.slice b m d)) = True) ∧ (∀ s, (∃ b, DV.lit (.string s) = .lit (.string b)) = True) ∧ LeD (.lit (.slice none 0 0)) (.sl []) = True ∧ IsN (.lit (.slice none 0 0)) = True :=
 ⟨fun l => eq_T ⟨l, rfl⟩, fun k n => eq_T ⟨k, n, rfl⟩, fun b => eq_T ⟨b, rfl⟩, fun l => eq_T ⟨l, rfl⟩, fun v => eq_T ⟨v, rfl⟩, fun n => eq_T ⟨n, rfl⟩, fun _ => rfl, fun _ => rfl, fun _ _ _ => rfl, fun _ => rfl, fun _ => rfl, fun _ _ => rfl, fun _ => rfl, fun _ => rfl, fun _ => rfl,
  fun tk op x y z h => eq_T ⟨z, h⟩, fun x => eq_T (LeD.of rfl), fun x => eq_T (LeR.of rfl), fun l => propext ⟨fun h => (by obtain ⟨_, _, _, h⟩ := h; cases h), False.elim⟩, fun a n c => eq_T ⟨a, n, c, rfl⟩, fun s => eq_T ⟨s, rfl⟩, eq_T LeD.nil, eq_T rfl⟩
theorem eB : (∀ tk (k : IntKind) (a b : Int), bopD tk .add (.lit (.int k a)) (.lit (.int k b)) = some (.lit (.int k (k.wrap (a + b))))) ∧
  (∀ tk (k : IntKind) (a b : Int), bopD tk .sub (.lit (.int k a)) (.lit (.int k b)) = some (.lit (.int k (k.wrap (a - b))))) ∧
  (∀ tk (k : IntKind) (a b : Int), bopD tk .mul (.lit (.int k a)) (.lit (.int k b)) = some (.lit (.int k (k.wrap (a * b))))) ∧
  (∀ tk (k : IntKind) (a b : Int), bopD tk .eql (.lit (.int k a)) (.lit (.int k b)) = some (.lit (.bool (decide (a = b))))) ∧
  (∀ tk (k : IntKind) (a b : Int), bopD tk .neq (.lit (.int k a)) (.lit (.int k b)) = some (.lit (.bool (decide (¬ a = b))))) ∧
  (∀ tk (k : IntKind) (a b : Int), bopD tk .lss (.lit (.int k a)) (.lit (.int k b)) = some (.lit (.bool (decide (a < b))))) ∧
  (∀ tk (k : IntKind) (a b : Int), bopD tk .leq (.lit (.int k a)) (.lit (.int k b)) = some (.lit (.bool (decide (a ≤ b))))) ∧
  (∀ tk (k : IntKind) (a b : Int), bopD tk .gtr (.lit (.int k a)) (.lit (.int k b)) = some (.lit (.bool (decide (b < a))))) ∧
  (∀ tk (k : IntKind) (a b : Int), bopD tk .geq (.lit (.int k a)) (.lit (.int k b)) = some (.lit (.bool (decide (b ≤ a))))) ∧
  (∀ tk (s t : ByteArray), bopD tk .eql (.lit (.string s)) (.lit (.string t)) = some (.lit (.bool (decide (s = t))))) ∧
  (∀ tk (s t : ByteArray), bopD tk .neq (.lit (.string s)) (.lit (.string t)) = some (.lit (.bool (decide (¬ s = t))))) ∧
  (∀ tk (s t : ByteArray), bopD tk .lss (.lit (.string s)) (.lit (.string t)) = some (.lit (.bool (Op.bytesLess s.toList t.toList)))) ∧
  (∀ tk (s t : ByteArray), bopD tk .leq (.lit (.string s)) (.lit (.string t)) = some (.lit (.bool (Op.bytesLess s.toList t.toList || s.toList == t.toList)))) ∧
  (∀ tk (s t : ByteArray), bopD tk .gtr (.lit (.string s)) (.lit (.string t)) = some (.lit (.bool !(Op.bytesLess s.toList t.toList || s.toList == t.toList)))) ∧
  (∀ tk (s t : ByteArray), bopD tk .geq (.lit (.string s)) (.lit (.string t)) = some (.lit (.bool !Op.bytesLess s.toList t.toList))) ∧
  (∀ (x y : Bool), bopD .bool .eql (.lit (.bool x)) (.lit (.bool y)) = some (.lit (.bool (x == y)))) ∧
  (∀ (x y : Bool), bopD .bool .neq (.lit (.bool x)) (.lit (.bool y)) = some (.lit (.bool (!(x == y))))) ∧
  (∀ (u : TypeId) (v : Value), bopD .ifc .eql (.lit (.iface u v)) (.lit .nilIface) = some (.lit (.bool false))) ∧
  (∀ (u : TypeId) (d : DV), bopD .ifc .eql (.ifc u d) (.lit .nilIface) = some (.lit (.bool false))) ∧
  (∀ (u : TypeId) (v : Value), bopD .ifc .neq (.lit (.iface u v)) (.lit .nilIface) = some (.lit (.bool true))) ∧
  (∀ (u : TypeId) (d : DV), bopD .ifc .neq (.ifc u d) (.lit .nilIface) = some (.lit (.bool true))) ∧
  (bopD .ifc .eql (.lit .nilIface) (.lit .nilIface) = some (.lit (.bool true))) ∧
  (bopD .ifc .neq (.lit .nilIface) (.lit .nilIface) = some (.lit (.bool false))) := by
 and_intros <;> (intros; simp [bopD, bopV])
theorem eO : (∀ tk (k : IntKind) (a b : Int), BopOk tk .add (.lit (.int k a)) (.lit (.int k b)) = True) ∧
  (∀ tk (k : IntKind) (a b : Int), BopOk tk .sub (.lit (.int k a)) (.lit (.int k b)) = True) ∧
  (∀ tk (k : IntKind) (a b : Int), BopOk tk .mul (.lit (.int k a)) (.lit (.int k b)) = True) ∧
  (∀ tk (k : IntKind) (a b : Int), BopOk tk .eql (.lit (.int k a)) (.lit (.int k b)) = True) ∧
  (∀ tk (k : IntKind) (a b : Int), BopOk tk .neq (.lit (.int k a)) (.lit (.int k b)) = True) ∧
  (∀ tk (k : IntKind) (a b : Int), BopOk tk .lss (.lit (.int k a)) (.lit (.int k b)) = True) ∧
  (∀ tk (k : IntKind) (a b : Int), BopOk tk .leq (.lit (.int k a)) (.lit (.int k b)) = True) ∧
  (∀ tk (k : IntKind) (a b : Int), BopOk tk .gtr (.lit (.int k a)) (.lit (.int k b)) = True) ∧
  (∀ tk (k : IntKind) (a b : Int), BopOk tk .geq (.lit (.int k a)) (.lit (.int k b)) = True) ∧
  (∀ tk (s t : ByteArray), BopOk tk .eql (.lit (.string s)) (.lit (.string t)) = True) ∧
  (∀ tk (s t : ByteArray), BopOk tk .neq (.lit (.string s)) (.lit (.string t)) = True) ∧
  (∀ tk (s t : ByteArray), BopOk tk .lss (.lit (.string s)) (.lit (.string t)) = True) ∧
  (∀ tk (s t : ByteArray), BopOk tk .leq (.lit (.string s)) (.lit (.string t)) = True) ∧
  (∀ tk (s t : ByteArray), BopOk tk .gtr (.lit (.string s)) (.lit (.string t)) = True) ∧
  (∀ tk (s t : ByteArray), BopOk tk .geq (.lit (.string s)) (.lit (.string t)) = True) ∧
  (∀ (x y : Bool), BopOk .bool .eql (.lit (.bool x)) (.lit (.bool y)) = True) ∧
  (∀ (x y : Bool), BopOk .bool .neq (.lit (.bool x)) (.lit (.bool y)) = True) ∧
  (∀ (u : TypeId) (v : Value), BopOk .ifc .eql (.lit (.iface u v)) (.lit .nilIface) = True) ∧
  (∀ (u : TypeId) (d : DV), BopOk .ifc .eql (.ifc u d) (.lit .nilIface) = True) ∧
  (∀ (u : TypeId) (v : Value), BopOk .ifc .neq (.lit (.iface u v)) (.lit .nilIface) = True) ∧
  (∀ (u : TypeId) (d : DV), BopOk .ifc .neq (.ifc u d) (.lit .nilIface) = True) ∧
  (BopOk .ifc .eql (.lit .nilIface) (.lit .nilIface) = True) ∧
  (BopOk .ifc .neq (.lit .nilIface) (.lit .nilIface) = True) := by
 and_intros <;> (intros; exact eq_T ⟨_, by simp [bopD, bopV]; rfl⟩)
theorem cat_run {s t : ByteArray} (h : s.size + t.size ≤ 9223372036854775807) : (∀ tk, bopD tk .add (.lit (.string s)) (.lit (.string t)) = some (.lit (.string (s ++ t)))) ∧ ∀ tk, BopOk tk .add (.lit (.string s)) (.lit (.string t)) = True :=
 have h1 : ∀ tk, bopD tk .add (.lit (.string s)) (.lit (.string t)) = some (.lit (.string (s ++ t))) := fun tk => by simp [bopD, bopV, h]
 ⟨h1, fun tk => eq_T ⟨_, h1 tk⟩⟩
section
variable {α : Type} (P : Program) (G : List (Nat × List DV)) (PW : Code → St → (Exit → St → Prop) → Prop)
theorem eH : (∀ (x : α) Q, holds P G PW (.ret x) Q = Q x) ∧ (∀ n (Q : α → Prop), holds P G PW (.fail n) Q = False) ∧ (∀ p (k : Tr α) Q, holds P G PW (.ask p k) Q = (p () ∧ holds P G PW k Q)) ∧
  (∀ c (t e : Unit → Tr α) Q, holds P G PW (.br c t e) Q = ((c () = true → holds P G PW (t ()) Q) ∧ (c () = false → holds P G PW (e ()) Q))) ∧
  (∀ es i (k : (Unit → List DV) → Tr α) Q, holds P G PW (.get es i k) Q = (0 ≤ i () ∧ ∃ e, (es ())[(i ()).toNat]? = some e ∧ holds P G PW (k fun _ => e) Q)) ∧
  (∀ s (k : (Unit → DV) → Tr α) Q, holds P G PW (.run s k) Q = ∃ v, litB v = true ∧ (∀ w, (s ()).run P w = .ok v w) ∧ holds P G PW (k fun _ => .lit v) Q) :=
 ⟨fun _ _ => rfl, fun _ _ => rfl, fun _ _ _ => rfl, fun _ _ _ _ => rfl, fun _ _ _ _ => rfl, fun _ _ _ => rfl⟩
end
theorem eL : (∀ p : Prop, (True ∧ p) = p) ∧ (∀ p : Prop, (p ∧ True) = p) ∧ (∀ p : Prop, (True → p) = p) ∧ (∀ p : Prop, (False → p) = True) ∧ (∀ p : Prop, (True ∨ p) = True) ∧ (∀ p : Prop, (False ∨ p) = p) ∧ (∀ b : Bool, (b == true) = b) ∧ (∀ b : Bool, (b == false) = !b) ∧ (∀ b : Bool, ((!b) = true) = (b = false)) ∧ (∀ b : Bool, ((!b) = false) = (b = true)) ∧
  ((true = false) = False) ∧ ((false = true) = False) ∧ (∀ b : Bool, (b = b) = True) ∧ ((!true) = false) ∧ ((!false) = true) ∧ (∀ p [Decidable p], (decide p = true) = p) ∧ (∀ p [Decidable p], (decide p = false) = ¬ p) ∧ (∀ a : Int, (a = a) = True) ∧ ((¬ True) = False) ∧ ((¬ False) = True) ∧ (∀ a : Int, (a < a) = False) ∧ (∀ a : Int, (a ≤ a) = True) ∧ (∀ i : Decidable True, @decide True i = true) ∧ (∀ i : Decidable False, @decide False i = false) ∧ (∀ (α : Type) (i : Decidable True) (a b : α), @ite α True i a b = a) ∧ (∀ (α : Type) (i : Decidable False) (a b : α), @ite α False i a b = b) :=
 ⟨fun p => by simp, fun p => by simp, fun p => by simp, fun p => by simp, fun p => by simp, fun p => by simp, fun b => by cases b <;> rfl, fun b => by cases b <;> rfl, fun b => by simp, fun b => by simp, by simp, by simp, fun b => by simp, rfl, rfl, fun p _ => by simp, fun p _ => by simp, fun a => by simp, by simp, by simp, fun a => by simp, fun a => by simp, fun i => by simp, fun i => by simp, fun α i a b => by simp, fun α i a b => by simp⟩
theorem eS : type_of% (And.intro @eH (And.intro eR (And.intro eB (And.intro eO eL)))) := And.intro @eH (And.intro eR (And.intro eB (And.intro eO eL)))
theorem wrap_in {a : Int} (h1 : -9223372036854775808 ≤ a) (h2 : a ≤ 9223372036854775807) : IntKind.i64.wrap a = a := IntWalk.i64_in a ⟨h1, h2⟩
theorem cellQ {c v : DV} (h : c = v) : (∀ tk op y, bopD tk op c y = bopD tk op v y) ∧ (∀ tk op x, bopD tk op x c = bopD tk op x v) ∧ (∀ tk op y, BopOk tk op c y = BopOk tk op v y) ∧ (∀ tk op x, BopOk tk op x c = BopOk tk op x v) ∧
  IsB c = IsB v ∧ boolOf c = boolOf v ∧ IsI c = IsI v ∧ intD c = intD v ∧ IsS c = IsS v ∧ DV.es c = DV.es v ∧ lenD c = lenD v ∧ IsP c = IsP v ∧ DV.ps c = DV.ps v ∧ IsL c = IsL v ∧ DV.vl c = DV.vl v ∧ IsN c = IsN v ∧ (∃ s, c = .lit (.string s)) = (∃ s, v = .lit (.string s)) := by
 subst h; exact ⟨fun _ _ _ => rfl, fun _ _ _ => rfl, fun _ _ _ => rfl, fun _ _ _ => rfl, rfl, rfl, rfl, rfl, rfl, rfl, rfl, rfl, rfl, rfl, rfl, rfl, rfl⟩
theorem eU (P : Program) (b : Bool) (R : Value → Prop) : (∃ v, litB v = true ∧ (∀ w, (Op.unary UnOp.not (.bool b)).run P w = .ok v w) ∧ R v) = R (.bool !b) :=
 propext ⟨fun ⟨v, _, h, k⟩ => by
  have := h default
  rw [show (Op.unary UnOp.not (.bool b)).run P default = .ok (.bool !b) default from rfl] at this
  cases this; exact k, fun k => ⟨_, rfl, fun w => rfl, k⟩⟩
theorem hOrd {ops : Array Oper} {fp : List FP} {q : Prop} (h : ordOk ops fp = true) (k : q) : ordOk ops fp = true ∧ q := ⟨h, k⟩
section
variable {α : Type} {P : Program} {G : List (Nat × List DV)} {PW : Code → St → (Exit → St → Prop) → Prop} {Q : α → Prop}
theorem jR {φ p q : Prop} {t t' : Tr α} (F : φ) (k : q) (h1 : t = t' := by conv => lhs; cbv) (h2 : φ → holds P G PW t' Q = p := by intro F; simp only [eS, eU, List.forall_mem_cons, List.not_mem_nil, false_implies, implies_true, List.map_cons, List.map_nil, List.getD_cons_zero, List.getD_cons_succ, F]; rfl)
  (h3 : q → p := by intro k; (repeat (first | ((refine hOrd ?_ ?_); (focus kernel_rfl)) | ((refine And.intro ?_ ?_); (focus with_unfolding_all (first | exact Nat.le_of_ble_eq_true rfl | rfl))))); exact k) : holds P G PW t Q := h1 ▸ (h2 F ▸ h3 k)
theorem jE {φ p q : Prop} {Q : Unit → Prop} {q0 s : St} {t' : Tr Unit} (F : φ) (k : q) (h1 : clnA0 q0 s = t' := by conv => lhs; cbv) (h2 : φ → holds P G PW t' Q = p := by intro F; simp only [eS, eU, List.forall_mem_cons, List.not_mem_nil, false_implies, implies_true, List.map_cons, List.map_nil, List.getD_cons_zero, List.getD_cons_succ, F]; rfl)
  (h3 : q → p := by intro k; (repeat (first | ((refine hOrd ?_ ?_); (focus kernel_rfl)) | ((refine And.intro ?_ ?_); (focus with_unfolding_all (first | exact Nat.le_of_ble_eq_true rfl | rfl))))); exact k) : ∃ l fz os, holds P G PW (cln l fz os q0 s) Q := clnA_ex (h1 ▸ (h2 F ▸ h3 k))
end
theorem jI {α : Type} {p q : α → Prop} (t : α) (h : p t) (k : q t) : ∃ e, p e ∧ q e := ⟨t, h, k⟩
theorem J2 {a b : Prop} (x : a) (y : b) : a ∧ b := ⟨x, y⟩
theorem J3 {a b c : Prop} (x : a) (y : b) (z : c) : a ∧ b ∧ c := ⟨x, y, z⟩
theorem J4 {a b c d : Prop} (x : a) (y : b) (z : c) (u : d) : a ∧ b ∧ c ∧ d := ⟨x, y, z, u⟩
theorem J5 {a b c d e : Prop} (x : a) (y : b) (z : c) (u : d) (v : e) : a ∧ b ∧ c ∧ d ∧ e := ⟨x, y, z, u, v⟩
theorem J6 {a b c d e f : Prop} (x : a) (y : b) (z : c) (u : d) (v : e) (w : f) : a ∧ b ∧ c ∧ d ∧ e ∧ f := ⟨x, y, z, u, v, w⟩
theorem J7 {a b c d e f g : Prop} (x : a) (y : b) (z : c) (u : d) (v : e) (w : f) (r : g) : a ∧ b ∧ c ∧ d ∧ e ∧ f ∧ g := ⟨x, y, z, u, v, w, r⟩
end Go.Proofs.YtlmbcoecipbblaaGreatDoor
