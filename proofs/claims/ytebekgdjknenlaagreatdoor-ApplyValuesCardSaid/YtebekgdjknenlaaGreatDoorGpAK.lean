/- Plain facts: edits done to values; what comes of right values is right; edits. -/
import Derived.Test.YtebekgdjknenlaaGreatDoorGpAJ
import Derived.Test.YtebekgdjknenlaaGreatDoorGpAH
set_option linter.unusedVariables false
set_option linter.unusedSimpArgs false
namespace Go.Proofs.YtebekgdjknenlaaGreatDoor.Val
inductive Res (α : Type) where
 | bad (n : Nat)
 | ok (x : α)
def setRest (v : V) (r : ByteArray) : V := .mk v.kind v.num v.text v.fields r v.list v.pairs
def headKind (v k : V) : Prop := ∃ e, v.pairs.head? = some e ∧ e.1.kind ≠ k.kind
instance (v k : V) : Decidable (headKind v k) := match h : v.pairs.head? with
 | none => isFalse (fun ⟨e, h2, _⟩ => by rw [h] at h2; cases h2)
 | some e => if h3 : e.1.kind ≠ k.kind then isTrue ⟨e, h, h3⟩ else isFalse (fun ⟨e', h2, h4⟩ => by rw [h] at h2; cases h2; exact h3 h4)
mutual
def ado : E → V → Res V
 | .mk k o n f r ro rn s ks, v =>
  if k = 1 then (if cmp o v = 0 then .ok n else .bad 13)
  else if k = 2 then (if v.kind = 3 then (match adoF f v with
   | .bad b => .bad b
   | .ok w => if r = true then (if w.rest = ro then .ok (setRest w rn) else .bad 13) else .ok w) else .bad 13)
  else if k = 3 then (if v.kind = 4 ∨ v.kind = 0 then (match adoS s v.list [] with
   | .bad b => .bad b
   | .ok (left, out) => if 0 < left.length then .bad 13 else .ok (mkL out)) else .bad 13)
  else if k = 4 then (if v.kind = 5 ∨ v.kind = 0 then adoK ks v else .bad 13)
  else .ok v
def adoF : List (Int × E) → V → Res V
 | [], v => .ok v
 | (n, e) :: r, v => match ado e (get v n) with
  | .bad b => .bad b
  | .ok x => adoF r (withV v n x)
def adoS : List (Int × Int × V × E) → List V → List V → Res (List V × List V)
 | [], l, o => .ok (l, o)
 | (k, c, v, e) :: r, l, o =>
  if k = 1 then (if (l.length : Int) < c then .bad 13 else adoS r (l.drop c.toNat) (o ++ l.take c.toNat))
  else if k = 2 then (match l with
   | [] => .bad 13
   | x :: l' => if cmp x v = 0 then adoS r l' o else .bad 13)
  else if k = 3 then adoS r l (o ++ [v])
  else (match l with
   | [] => .bad 13
   | x :: l' => match ado e x with
    | .bad b => .bad b
    | .ok y => if 1 ≤ y.kind ∧ y.kind ≤ 3 then adoS r l' (o ++ [y]) else .bad 12)
def adoK : List (V × E) → V → Res V
 | [], v => .ok v
 | (k, e) :: r, v => if headKind v k then .bad 13 else match ado e (find v k) with
  | .bad b => .bad b
  | .ok x => if x.kind ≠ 0 ∧ ¬ (1 ≤ x.kind ∧ x.kind ≤ 3) then .bad 12 else adoK r (putV v k x)
end
def stepB (k c : Int) (v : V) (e : E) : Prop := (k = 1 ∧ 1 ≤ c ∧ c ≤ 1048576) ∨ (k = 2 ∧ partB v = true) ∨ (k = 3 ∧ partB v = true) ∨ (k = 4 ∧ eright e = true)
theorem step_b {k c : Int} {v : V} {e : E} (h : stepRight k c v e = true) : stepB k c v e := by
 unfold stepRight at h
 unfold stepB
 split at h
 ·simp only [Bool.and_eq_true, decide_eq_true_eq] at h; exact .inl ⟨‹_›, h.1⟩
 ·split at h
  ·rename_i h2
   simp only [Bool.and_eq_true, decide_eq_true_eq] at h
   rcases h2 with h2 | h2
   ·exact .inr (.inl ⟨h2, h.2.1⟩)
   ·exact .inr (.inr (.inl ⟨h2, h.2.1⟩))
  ·split at h
   ·simp only [Bool.and_eq_true, decide_eq_true_eq, esome] at h; exact .inr (.inr (.inr ⟨‹_›, h.2.2.2⟩))
   ·cases h
theorem esteps_cons {last : Int} {ch : Bool} {k c : Int} {v : V} {e : E} {r : List (Int × Int × V × E)} : esteps last ch ((k, c, v, e) :: r) = (stepRight k c v e && !(decide (last = 1 ∧ k = 1)) && !(decide (last = 3 ∧ k = 2)) && esteps k (ch || decide (k ≠ 1)) r) := by
 rw [esteps]; rfl
def allF (f : List (Int × E)) : Prop := ∀ e ∈ f, KI e.1 ∧ eright e.2 = true
def allS (s : List (Int × Int × V × E)) : Prop := ∀ e ∈ s, stepB e.1 e.2.1 e.2.2.1 e.2.2.2
def allK (s : List (V × E)) : Prop := ∀ e ∈ s, KP e.1.kind e.1 ∧ eright e.2 = true
theorem efields_all : ∀ (f : List (Int × E)) (last : Int), 0 ≤ last → efields last f = true → allF f
 | [], _, _, _ => fun e he => by simp at he
 | (n, x) :: r, last, h0, h => by
  rw [efields] at h
  simp only [Bool.and_eq_true, decide_eq_true_eq] at h
  obtain ⟨⟨⟨h1, h2⟩, h3, h4⟩, h5⟩ := h
  intro e he
  rcases List.mem_cons.1 he with rfl | he
  ·exact ⟨⟨by show 1 ≤ n; omega, h2⟩, h4⟩
  ·exact efields_all r n (by omega) h5 e he
theorem esteps_all : ∀ (s : List (Int × Int × V × E)) (last : Int) (ch : Bool), esteps last ch s = true → allS s
 | [], _, _, _ => fun e he => by simp at he
 | (k, c, v, x) :: r, last, ch, h => by
  rw [esteps_cons] at h
  simp only [Bool.and_eq_true] at h
  intro e he
  rcases List.mem_cons.1 he with rfl | he
  ·exact step_b h.1.1.1
  ·exact esteps_all r k _ h.2 e he
theorem ekeys_all : ∀ (s : List (V × E)) (last : Option V), ekeys last s = true → allK s
 | [], _, _ => fun e he => by simp at he
 | (k, x) :: r, last, h => by
  rw [ekeys.eq_def] at h
  simp only [Bool.and_eq_true, decide_eq_true_eq] at h
  intro e he
  rcases List.mem_cons.1 he with rfl | he
  ·exact ⟨⟨rfl, h.1.1.1.1, h.1.1.1.2⟩, h.1.1.2.2⟩
  ·exact ekeys_all r _ h.2 e he
theorem eright_parts {k : Int} {o n : V} {f : List (Int × E)} {r : Bool} {ro rn : ByteArray} {s : List (Int × Int × V × E)} {ks : List (V × E)} (h : eright (.mk k o n f r ro rn s ks) = true) :
  bareE k o n f.length r ro rn s.length ks.length = true ∧ (k = 0 ∨ (k = 1 ∧ right o = true ∧ right n = true ∧ cmp o n ≠ 0) ∨ (k = 2 ∧ allF f) ∨ (k = 3 ∧ allS s) ∨ (k = 4 ∧ allK ks)) := by
 rw [eright, Bool.and_eq_true] at h
 refine ⟨h.1, ?_⟩
 have h := h.2
 split at h
 ·exact .inl ‹_›
 ·split at h
  ·simp only [Bool.and_eq_true, Bool.not_eq_true', decide_eq_false_iff_not] at h; exact .inr (.inl ⟨‹_›, h⟩)
  ·split at h
   ·simp only [Bool.and_eq_true] at h; exact .inr (.inr (.inl ⟨‹_›, efields_all f 0 (by omega) h.1⟩))
   ·split at h
    ·exact .inr (.inr (.inr (.inl ⟨‹_›, esteps_all s 0 false h⟩)))
    ·split at h
     ·simp only [Bool.and_eq_true] at h; exact .inr (.inr (.inr (.inr ⟨‹_›, ekeys_all ks none h.2⟩)))
     ·cases h
theorem part_right {v : V} (h : partB v = true) : right v = true := by unfold partB at h; simp only [Bool.and_eq_true] at h; exact h.2
theorem part_of {v : V} (h : 1 ≤ v.kind ∧ v.kind ≤ 3) (hr : right v = true) : partB v = true := by unfold partB; simp [h, hr]
theorem rightL_mem {l : List V} : rightL l = true ↔ ∀ v ∈ l, partB v = true := by rw [rightL_all, List.all_eq_true]
theorem right_setRest {v : V} (r : ByteArray) (h : right v = true) (hk : v.kind = 3) : right (setRest v r) = true := by
 have e := right_msg h hk
 have e2 : setRest v r = mkM v.fields r := by
  rw [e.1]; rfl
 rw [e2, right_mkM]; exact e.2
theorem kinds_of {v k : V} (hr : right v = true) (hk : v.kind = 5 ∨ v.kind = 0) (h : ¬ headKind v k) : KeysOf k.kind v := by
 refine keys_of hr hk ?_
 cases hv : v.pairs with
 | nil => exact .inl rfl
 | cons e r =>
  right
  refine ⟨e, rfl, ?_⟩
  by_cases h2 : e.1.kind = k.kind
  ·exact h2
  ·exact absurd ⟨e, by rw [hv]; rfl, h2⟩ h
mutual
theorem ado_right : ∀ (e : E) (v x : V), eright e = true → right v = true → ado e v = .ok x → right x = true
 | .mk k o n f r ro rn s ks, v, x, he, hv, h => by
  obtain ⟨_, he⟩ := eright_parts he
  rw [ado] at h
  rcases he with rfl | ⟨rfl, h1, h2, h3⟩ | ⟨rfl, h1⟩ | ⟨rfl, h1⟩ | ⟨rfl, h1⟩
  ·simp at h; subst h; exact hv
  ·simp at h
   split at h
   ·cases h; exact h2
   ·cases h
  ·simp at h
   split at h
   case isFalse => cases h
   case isTrue hk =>
   cases hF : adoF f v with
   | bad b => rw [hF] at h; cases h
   | ok w =>
    rw [hF] at h
    obtain ⟨hw, kw⟩ := adoF_right f v w h1 hv hk hF
    simp only at h
    split at h
    ·split at h
     ·cases h; exact right_setRest rn hw kw
     ·cases h
    ·cases h; exact hw
  ·simp at h
   split at h
   case isFalse => cases h
   case isTrue hk =>
   cases hS : adoS s v.list [] with
   | bad b => rw [hS] at h; cases h
   | ok p =>
    obtain ⟨left, out⟩ := p
    rw [hS] at h
    have := adoS_right s v.list [] left out h1 (rightL_mem.1 (right_list hv hk).2) (by simp) hS
    simp only at h
    split at h
    ·cases h
    ·cases h; exact right_mkL (rightL_mem.2 this.2)
  ·simp at h
   split at h
   case isFalse => cases h
   case isTrue hk =>
   exact (adoK_right ks v x h1 hv hk h).1
theorem adoF_right : ∀ (f : List (Int × E)) (v x : V), allF f → right v = true → v.kind = 3 → adoF f v = .ok x → right x = true ∧ x.kind = 3
 | [], v, x, _, hv, hk, h => by rw [adoF] at h; cases h; exact ⟨hv, hk⟩
 | (n, e) :: r, v, x, ha, hv, hk, h => by
  rw [adoF] at h
  have h1 := ha (n, e) (by simp)
  cases hE : ado e (get v n) with
  | bad b => rw [hE] at h; cases h
  | ok y =>
   rw [hE] at h
   have hy := ado_right e (get v n) y h1.2 (right_get hv hk h1.1) hE
   exact adoF_right r (withV v n y) x (fun e he => ha e (by simp [he])) (right_with hv hk h1.1 hy) (kind_with hk) h
theorem adoS_right : ∀ (s : List (Int × Int × V × E)) (l o l' o' : List V), allS s → (∀ v ∈ l, partB v = true) → (∀ v ∈ o, partB v = true) → adoS s l o = .ok (l', o') → (∀ v ∈ l', partB v = true) ∧ ∀ v ∈ o', partB v = true
 | [], l, o, l', o', _, hl, ho, h => by rw [adoS] at h; cases h; exact ⟨hl, ho⟩
 | (k, c, v, e) :: r, l, o, l', o', ha, hl, ho, h => by
  have hr : allS r := fun e he => ha e (by simp [he])
  have h1 : stepB k c v e := ha (k, c, v, e) (by simp)
  rw [adoS.eq_def] at h
  rcases h1 with ⟨rfl, h1, h2⟩ | ⟨rfl, h1⟩ | ⟨rfl, h1⟩ | ⟨rfl, h1⟩
  ·simp at h
   split at h
   ·cases h
   ·refine adoS_right r _ _ l' o' hr (fun v hv => hl v (List.mem_of_mem_drop hv)) (fun v hv => ?_) h
    rcases List.mem_append.1 hv with hv | hv
    ·exact ho v hv
    ·exact hl v (List.mem_of_mem_take hv)
  ·simp at h
   cases l with
   | nil => cases h
   | cons x t =>
    simp only at h
    split at h
    ·exact adoS_right r t o l' o' hr (fun v hv => hl v (by simp [hv])) ho h
    ·cases h
  ·simp at h
   refine adoS_right r l _ l' o' hr hl (fun u hu => ?_) h
   rcases List.mem_append.1 hu with hu | hu
   ·exact ho u hu
   ·obtain rfl : u = v := by simpa using hu
    exact h1
  ·simp at h
   cases l with
   | nil => cases h
   | cons x t =>
    simp only at h
    cases hE : ado e x with
    | bad b => rw [hE] at h; cases h
    | ok y =>
     rw [hE] at h
     have hy := ado_right e x y h1 (part_right (hl x (by simp))) hE
     simp only at h
     split at h
     ·rename_i hk
      refine adoS_right r t _ l' o' hr (fun v hv => hl v (by simp [hv])) (fun u hu => ?_) h
      rcases List.mem_append.1 hu with hu | hu
      ·exact ho u hu
      ·obtain rfl : u = y := by simpa using hu
       exact part_of hk hy
     ·cases h
theorem adoK_right : ∀ (f : List (V × E)) (v x : V), allK f → right v = true → (v.kind = 5 ∨ v.kind = 0) → adoK f v = .ok x → right x = true ∧ (x.kind = 5 ∨ x.kind = 0)
 | [], v, x, _, hv, hk, h => by rw [adoK] at h; cases h; exact ⟨hv, hk⟩
 | (k, e) :: r, v, x, ha, hv, hk, h => by
  rw [adoK] at h
  have h1 := ha (k, e) (by simp)
  split at h
  case isTrue => cases h
  case isFalse hh =>
  have hO := kinds_of hv hk hh
  cases hE : ado e (find v k) with
  | bad b => rw [hE] at h; cases h
  | ok y =>
   rw [hE] at h
   have hy := ado_right e (find v k) y h1.2 (right_find hv hO h1.1) hE
   simp only at h
   split at h
   ·cases h
   ·rename_i hk2
    have hy2 : y.kind = 0 ∨ partB y = true := by
     by_cases h0 : y.kind = 0
     ·exact .inl h0
     ·refine .inr (part_of ?_ hy)
      by_cases h3 : 1 ≤ y.kind ∧ y.kind ≤ 3
      ·exact h3
      ·exact absurd ⟨h0, h3⟩ hk2
    exact adoK_right r (putV v k y) x (fun e he => ha e (by simp [he])) (right_put hO h1.1 hy2) (keys_put hO h1.1 hy2).1 h
end
mutual
theorem ado_inj : ∀ (e : E) (v w x : V), eright e = true → right v = true → right w = true → ado e v = .ok x → ado e w = .ok x → v = w
 | .mk k o n f r ro rn s ks, v, w, x, he, hv, hw, h, h' => by
  obtain ⟨_, he⟩ := eright_parts he
  rw [ado] at h h'
  rcases he with rfl | ⟨rfl, h1, h2, h3⟩ | ⟨rfl, h1⟩ | ⟨rfl, h1⟩ | ⟨rfl, h1⟩
  ·simp at h h'; rw [h, h']
  ·simp at h h'
   split at h
   case isFalse => cases h
   split at h'
   case isFalse => cases h'
   rename_i e1 e2
   rw [← cmp_eq o v h1 hv e1, ← cmp_eq o w h1 hw e2]
  ·simp at h h'
   split at h
   case isFalse => cases h
   split at h'
   case isFalse => cases h'
   rename_i kv kw
   cases hF : adoF f v with
   | bad b => rw [hF] at h; cases h
   | ok a =>
   cases hG : adoF f w with
   | bad b => rw [hG] at h'; cases h'
   | ok b =>
    rw [hF] at h
    rw [hG] at h'
    obtain ⟨ra, ka⟩ := adoF_right f v a h1 hv kv hF
    obtain ⟨rb, kb⟩ := adoF_right f w b h1 hw kw hG
    simp only at h h'
    have : a = b := by
     split at h
     ·split at h'
      case isFalse => simp_all
      split at h
      case isFalse => cases h
      split at h'
      case isFalse => cases h'
      rename_i q1 q2
      cases h
      injection h' with h'
      rw [(right_msg ra ka).1, (right_msg rb kb).1, q1, q2]
      have : a.fields = b.fields := by
       have := congrArg V.fields h'
       exact this.symm
      rw [this]
     ·split at h'
      case isTrue => simp_all
      cases h; cases h'; rfl
    subst this
    exact adoF_inj f v w a h1 hv hw kv kw hF hG
  ·simp at h h'
   split at h
   case isFalse => cases h
   split at h'
   case isFalse => cases h'
   rename_i kv kw
   cases hS : adoS s v.list [] with
   | bad b => rw [hS] at h; cases h
   | ok p =>
   cases hT : adoS s w.list [] with
   | bad b => rw [hT] at h'; cases h'
   | ok q =>
    obtain ⟨l1, o1⟩ := p
    obtain ⟨l2, o2⟩ := q
    rw [hS] at h
    rw [hT] at h'
    simp only at h h'
    split at h
    case isTrue => cases h
    split at h'
    case isTrue => cases h'
    rename_i e1 e2
    have e3 : mkL o1 = mkL o2 := by injection h with h; injection h' with h'; rw [h, h']
    have e4 : o1 = o2 := by rw [← mkL_list o1, ← mkL_list o2, e3]
    have e5 : l1 = [] := List.eq_nil_of_length_eq_zero (by omega)
    have e6 : l2 = [] := List.eq_nil_of_length_eq_zero (by omega)
    subst e4 e5 e6
    have hl := right_list hv kv
    have hm := right_list hw kw
    rw [hl.1, hm.1, (adoS_inj s v.list w.list [] [] [] o1 h1 (rightL_mem.1 hl.2) (rightL_mem.1 hm.2) rfl hS hT).1]
  ·simp at h h'
   split at h
   case isFalse => cases h
   split at h'
   case isFalse => cases h'
   rename_i kv kw
   exact adoK_inj ks v w x h1 hv hw kv kw h h'
theorem adoF_inj : ∀ (f : List (Int × E)) (v w x : V), allF f → right v = true → right w = true → v.kind = 3 → w.kind = 3 → adoF f v = .ok x → adoF f w = .ok x → v = w
 | [], v, w, x, _, _, _, _, _, h, h' => by rw [adoF] at h h'; cases h; cases h'; rfl
 | (n, e) :: r, v, w, x, ha, hv, hw, kv, kw, h, h' => by
  rw [adoF] at h h'
  have h1 := ha (n, e) (by simp)
  cases hE : ado e (get v n) with
  | bad b => rw [hE] at h; cases h
  | ok y =>
  cases hG : ado e (get w n) with
  | bad b => rw [hG] at h'; cases h'
  | ok z =>
   rw [hE] at h
   rw [hG] at h'
   simp only at h h'
   have hy := ado_right e _ y h1.2 (right_get hv kv h1.1) hE
   have hz := ado_right e _ z h1.2 (right_get hw kw h1.1) hG
   have ih := adoF_inj r (withV v n y) (withV w n z) x (fun e he => ha e (by simp [he])) (right_with hv kv h1.1 hy) (right_with hw kw h1.1 hz) (kind_with kv) (kind_with kw) h h'
   have yz : y = z := by rw [← get_with hv kv h1.1 hy, ← get_with hw kw h1.1 hz, ih]
   subst yz
   have e0 := ado_inj e (get v n) (get w n) y h1.2 (right_get hv kv h1.1) (right_get hw kw h1.1) hE hG
   refine msg_ext hv hw kv kw ?_ (fun m hm => ?_)
   ·rw [← rest_with (v := v) (n := n) (x := y), ih, rest_with]
   ·by_cases hne : m = n
    ·subst hne; exact e0
    ·rw [← get_with_ne hv kv h1.1 hm hne (x := y), ih, get_with_ne hw kw h1.1 hm hne]
theorem adoS_inj : ∀ (s : List (Int × Int × V × E)) (l m o p l' o' : List V), allS s → (∀ v ∈ l, partB v = true) → (∀ v ∈ m, partB v = true) → o.length = p.length → adoS s l o = .ok (l', o') → adoS s m p = .ok (l', o') → l = m ∧ o = p
 | [], l, m, o, p, l', o', _, _, _, _, h, h' => by rw [adoS] at h h'; cases h; cases h'; exact ⟨rfl, rfl⟩
 | (k, c, v, e) :: r, l, m, o, p, l', o', ha, hl, hm, hlen, h, h' => by
  have hr : allS r := fun e he => ha e (by simp [he])
  have h1 : stepB k c v e := ha (k, c, v, e) (by simp)
  rw [adoS.eq_def] at h h'
  rcases h1 with ⟨rfl, h1, h2⟩ | ⟨rfl, h1⟩ | ⟨rfl, h1⟩ | ⟨rfl, h1⟩
  ·simp at h h'
   split at h
   ·cases h
   split at h'
   ·cases h'
   rename_i q1 q2
   have len : (o ++ l.take c.toNat).length = (p ++ m.take c.toNat).length := by
    simp only [List.length_append, List.length_take]; omega
   obtain ⟨e1, e2⟩ := adoS_inj r _ _ _ _ l' o' hr (fun v hv => hl v (List.mem_of_mem_drop hv)) (fun v hv => hm v (List.mem_of_mem_drop hv)) len h h'
   obtain ⟨e3, e4⟩ := List.append_inj e2 hlen
   exact ⟨by rw [← List.take_append_drop c.toNat l, ← List.take_append_drop c.toNat m, e1, e4], e3⟩
  ·simp at h h'
   cases l with
   | nil => cases h
   | cons x t =>
   cases m with
   | nil => cases h'
   | cons y u =>
    simp only at h h'
    split at h
    case isFalse => cases h
    split at h'
    case isFalse => cases h'
    rename_i q1 q2
    obtain ⟨e1, e2⟩ := adoS_inj r t u o p l' o' hr (fun v hv => hl v (by simp [hv])) (fun v hv => hm v (by simp [hv])) hlen h h'
    have e3 := cmp_eq x v (part_right (hl x (by simp))) (part_right h1) q1
    have e4 := cmp_eq y v (part_right (hm y (by simp))) (part_right h1) q2
    exact ⟨by rw [e1, e3, e4], e2⟩
  ·simp at h h'
   obtain ⟨e1, e2⟩ := adoS_inj r l m (o ++ [v]) (p ++ [v]) l' o' hr hl hm (by simp [hlen]) h h'
   exact ⟨e1, (List.append_inj e2 hlen).1⟩
  ·simp at h h'
   cases l with
   | nil => cases h
   | cons x t =>
   cases m with
   | nil => cases h'
   | cons y u =>
    simp only at h h'
    cases hE : ado e x with
    | bad b => rw [hE] at h; cases h
    | ok a =>
    cases hG : ado e y with
    | bad b => rw [hG] at h'; cases h'
    | ok b =>
     rw [hE] at h
     rw [hG] at h'
     simp only at h h'
     split at h
     case isFalse => cases h
     split at h'
     case isFalse => cases h'
     obtain ⟨e1, e2⟩ := adoS_inj r t u (o ++ [a]) (p ++ [b]) l' o' hr (fun v hv => hl v (by simp [hv])) (fun v hv => hm v (by simp [hv])) (by simp [hlen]) h h'
     obtain ⟨e3, e4⟩ := List.append_inj e2 hlen
     have e5 : a = b := by simpa using e4
     subst e5
     exact ⟨by rw [e1, ado_inj e x y a h1 (part_right (hl x (by simp))) (part_right (hm y (by simp))) hE hG], e3⟩
theorem adoK_inj : ∀ (f : List (V × E)) (v w x : V), allK f → right v = true → right w = true → (v.kind = 5 ∨ v.kind = 0) → (w.kind = 5 ∨ w.kind = 0) → adoK f v = .ok x → adoK f w = .ok x → v = w
 | [], v, w, x, _, _, _, _, _, h, h' => by rw [adoK] at h h'; cases h; cases h'; rfl
 | (k, e) :: r, v, w, x, ha, hv, hw, kv, kw, h, h' => by
  rw [adoK] at h h'
  have h1 := ha (k, e) (by simp)
  split at h
  case isTrue => cases h
  split at h'
  case isTrue => cases h'
  rename_i hh1 hh2
  have hO := kinds_of hv kv hh1
  have hO' := kinds_of hw kw hh2
  cases hE : ado e (find v k) with
  | bad b => rw [hE] at h; cases h
  | ok y =>
  cases hG : ado e (find w k) with
  | bad b => rw [hG] at h'; cases h'
  | ok z =>
   rw [hE] at h
   rw [hG] at h'
   simp only at h h'
   have hy := ado_right e _ y h1.2 (right_find hv hO h1.1) hE
   have hz := ado_right e _ z h1.2 (right_find hw hO' h1.1) hG
   split at h
   case isTrue => cases h
   split at h'
   case isTrue => cases h'
   rename_i hk1 hk2
   have part : ∀ {y : V}, right y = true → ¬ (y.kind ≠ 0 ∧ ¬ (1 ≤ y.kind ∧ y.kind ≤ 3)) → y.kind = 0 ∨ partB y = true := fun {y} hy hk => by
    by_cases h0 : y.kind = 0
    ·exact .inl h0
    ·refine .inr (part_of ?_ hy)
     by_cases h3 : 1 ≤ y.kind ∧ y.kind ≤ 3
     ·exact h3
     ·exact absurd ⟨h0, h3⟩ hk
   have py := part hy hk1
   have pz := part hz hk2
   have ih := adoK_inj r (putV v k y) (putV w k z) x (fun e he => ha e (by simp [he])) (right_put hO h1.1 py) (right_put hO' h1.1 pz) (keys_put hO h1.1 py).1 (keys_put hO' h1.1 pz).1 h h'
   have yz : y = z := by rw [← find_put hO h1.1 py hy, ← find_put hO' h1.1 pz hz, ih]
   subst yz
   have e0 := ado_inj e (find v k) (find w k) y h1.2 (right_find hv hO h1.1) (right_find hw hO' h1.1) hE hG
   refine map_ext hv hw hO hO' (fun m hm => ?_)
   by_cases hne : m = k
   ·subst hne; exact e0
   ·rw [← find_put_ne hv hO h1.1 hm py hne, ih, find_put_ne hw hO' h1.1 hm pz hne]
end
mutual
def vmx : V → Nat
 | .mk _ _ _ f _ l p => max (max f.length (vmxF f)) (max (max l.length (vmxL l)) (max p.length (vmxP p)))
def vmxF : List (Int × V) → Nat
 | [] => 0
 | (_, v) :: r => max (vmx v) (vmxF r)
def vmxL : List V → Nat
 | [] => 0
 | v :: r => max (vmx v) (vmxL r)
def vmxP : List (V × V) → Nat
 | [] => 0
 | (k, v) :: r => max (max (vmx k) (vmx v)) (vmxP r)
end
mutual
def esz : E → Nat
 | .mk _ o n f _ _ _ s k => vmx o + vmx n + eszF f + eszS s + eszK k
def eszF : List (Int × E) → Nat
 | [] => 0
 | (_, e) :: r => 1 + esz e + eszF r
def eszS : List (Int × Int × V × E) → Nat
 | [] => 0
 | (_, _, v, e) :: r => 1 + vmx v + esz e + eszS r
def eszK : List (V × E) → Nat
 | [] => 0
 | (k, e) :: r => 1 + vmx k + esz e + eszK r
end
theorem vmxF_mem : ∀ {l : List (Int × V)} {e : Int × V}, e ∈ l → vmx e.2 ≤ vmxF l
 | (n, v) :: r, e, h => by
  rw [vmxF]
  rcases List.mem_cons.1 h with rfl | h
  ·exact Nat.le_max_left _ _
  ·have := vmxF_mem h; omega
theorem vmxL_mem : ∀ {l : List V} {e : V}, e ∈ l → vmx e ≤ vmxL l
 | v :: r, e, h => by
  rw [vmxL]
  rcases List.mem_cons.1 h with rfl | h
  ·exact Nat.le_max_left _ _
  ·have := vmxL_mem h; omega
theorem vmxP_mem : ∀ {l : List (V × V)} {e : V × V}, e ∈ l → vmx e.1 ≤ vmxP l ∧ vmx e.2 ≤ vmxP l
 | (n, v) :: r, e, h => by
  rw [vmxP]
  rcases List.mem_cons.1 h with rfl | h
  ·constructor <;> simp only <;> omega
  ·have := vmxP_mem h; omega
theorem vmxF_le : ∀ {l : List (Int × V)} {B : Nat}, (∀ e ∈ l, vmx e.2 ≤ B) → vmxF l ≤ B
 | [], _, _ => by rw [vmxF]; omega
 | (n, v) :: r, B, h => by
  rw [vmxF]
  have h1 := h (n, v) (by simp)
  have h2 := vmxF_le (l := r) (fun e he => h e (by simp [he]))
  simp only at h1; omega
theorem vmxL_le : ∀ {l : List V} {B : Nat}, (∀ e ∈ l, vmx e ≤ B) → vmxL l ≤ B
 | [], _, _ => by rw [vmxL]; omega
 | v :: r, B, h => by
  rw [vmxL]
  have h1 := h v (by simp)
  have h2 := vmxL_le (l := r) (fun e he => h e (by simp [he]))
  omega
theorem vmxP_le : ∀ {l : List (V × V)} {B : Nat}, (∀ e ∈ l, vmx e.1 ≤ B ∧ vmx e.2 ≤ B) → vmxP l ≤ B
 | [], _, _ => by rw [vmxP]; omega
 | (n, v) :: r, B, h => by
  rw [vmxP]
  have h1 := h (n, v) (by simp)
  have h2 := vmxP_le (l := r) (fun e he => h e (by simp [he]))
  simp only at h1; omega
theorem vmx_parts (v : V) : v.fields.length ≤ vmx v ∧ vmxF v.fields ≤ vmx v ∧ v.list.length ≤ vmx v ∧ vmxL v.list ≤ vmx v ∧ v.pairs.length ≤ vmx v ∧ vmxP v.pairs ≤ vmx v := by
 cases v
 rw [vmx]
 simp only [V.fields, V.list, V.pairs]
 omega
theorem vmx_v0 : vmx v0 = 0 := by unfold v0; rw [vmx]; simp [vmxF, vmxL, vmxP]
theorem get_vmx (v : V) (n : Int) : vmx (get v n) ≤ vmx v := by
 unfold get
 split
 ·rename_i h
  have h2 := h.2
  unfold hitF at h2
  simp only [Bool.and_eq_true, decide_eq_true_eq] at h2
  have e : v.fields.getD (posF v.fields n) (0, v0) = v.fields[posF v.fields n]'h2.1 := by simp [List.getD_eq_getElem?_getD, List.getElem?_eq_getElem h2.1]
  rw [e]
  have := vmxF_mem (List.getElem_mem h2.1)
  have := vmx_parts v; omega
 ·rw [vmx_v0]; omega
theorem find_vmx (v k : V) : vmx (find v k) ≤ vmx v := by
 unfold find
 split
 ·rename_i h
  have h2 := h.2
  unfold hitP at h2
  simp only [Bool.and_eq_true, decide_eq_true_eq] at h2
  have e : v.pairs.getD (posP v.pairs k) (v0, v0) = v.pairs[posP v.pairs k]'h2.1 := by simp [List.getD_eq_getElem?_getD, List.getElem?_eq_getElem h2.1]
  rw [e]
  have := (vmxP_mem (List.getElem_mem h2.1)).2
  have := vmx_parts v; omega
 ·rw [vmx_v0]; omega
theorem spl_mem {α : Type} {l : List α} {a m : Nat} {b : Bool} {x e : α} (h : e ∈ spl l a m b x) : e ∈ l ∨ e = x := by
 unfold spl at h
 rcases List.mem_append.1 h with h | h
 ·exact .inl (List.mem_of_mem_take h)
 ·rcases List.mem_append.1 h with h | h
  ·split at h
   ·exact .inr (by simpa using h)
   ·simp at h
  ·exact .inl (List.mem_of_mem_drop h)
theorem spl_len {α : Type} (l : List α) (a m : Nat) (b : Bool) (x : α) : (spl l a m b x).length ≤ l.length + 1 := by
 unfold spl
 simp only [List.length_append, List.length_take, List.length_drop]
 cases b <;> simp <;> omega
theorem with_vmx (v : V) (n : Int) (x : V) : vmx (withV v n x) ≤ max (vmx v + 1) (vmx x) := by
 unfold withV
 split
 ·have hp := vmx_parts v
  have h1 := spl_len v.fields (posF v.fields n) (one (hitF v.fields n)) (decide (x.kind ≠ 0)) (n, x)
  have h2 : vmxF (spl v.fields (posF v.fields n) (one (hitF v.fields n)) (decide (x.kind ≠ 0)) (n, x)) ≤ max (vmx v) (vmx x) := vmxF_le (fun e he => by
   rcases spl_mem he with he | rfl
   ·have := vmxF_mem he; omega
   ·exact Nat.le_max_right _ _)
  rw [vmx]
  omega
 ·omega
theorem put_vmx (v k x : V) : vmx (putV v k x) ≤ max (vmx v + 1) (max (vmx k) (vmx x)) := by
 unfold putV
 split
 ·split
  ·rw [vmx_v0]; omega
  ·have hp := vmx_parts v
   have h1 := spl_len v.pairs (posP v.pairs k) (one (hitP v.pairs k)) (decide (x.kind ≠ 0)) (k, x)
   have h2 : vmxP (putP v k x) ≤ max (vmx v) (max (vmx k) (vmx x)) := vmxP_le (fun e he => by
    unfold putP at he
    rcases spl_mem he with he | rfl
    ·have := vmxP_mem he; omega
    ·constructor <;> simp only <;> omega)
   have h3 : (putP v k x).length ≤ v.pairs.length + 1 := h1
   rw [vmx]
   simp only [vmxF, vmxL, List.length_nil]
   omega
 ·omega
theorem mkL_vmx (l : List V) : vmx (mkL l) ≤ max l.length (vmxL l) := by
 unfold mkL
 split
 ·rw [vmx_v0]; omega
 ·rw [vmx]; simp only [vmxF, vmxP, List.length_nil]; omega
mutual
theorem ado_vmx : ∀ (e : E) (v x : V), ado e v = .ok x → vmx x ≤ vmx v + esz e
 | .mk k o n f r ro rn s ks, v, x, h => by
  rw [ado] at h
  rw [esz]
  split at h
  ·split at h
   ·cases h; omega
   ·cases h
  ·split at h
   ·split at h
    case isFalse => cases h
    cases hF : adoF f v with
    | bad b => rw [hF] at h; cases h
    | ok w =>
     rw [hF] at h
     have := adoF_vmx f v w hF
     simp only at h
     split at h
     ·split at h
      ·cases h
       have e : vmx (setRest w rn) = vmx w := by cases w; unfold setRest; rw [vmx, vmx]; rfl
       rw [e]; omega
      ·cases h
     ·cases h; omega
   ·split at h
    ·split at h
     case isFalse => cases h
     cases hS : adoS s v.list [] with
     | bad b => rw [hS] at h; cases h
     | ok p =>
      obtain ⟨left, out⟩ := p
      rw [hS] at h
      have h1 := adoS_vmx s v.list [] left out (vmx v) hS (vmx_parts v).2.2.2.1 (by rw [vmxL]; omega)
      simp only at h
      split at h
      ·cases h
      ·cases h
       have := mkL_vmx out
       have := vmx_parts v
       simp only [List.length_nil] at h1
       omega
    ·split at h
     ·split at h
      case isFalse => cases h
      have := adoK_vmx ks v x h
      omega
     ·cases h; omega
theorem adoF_vmx : ∀ (f : List (Int × E)) (v x : V), adoF f v = .ok x → vmx x ≤ vmx v + eszF f
 | [], v, x, h => by rw [adoF] at h; cases h; rw [eszF]; omega
 | (n, e) :: r, v, x, h => by
  rw [adoF] at h
  rw [eszF]
  cases hE : ado e (get v n) with
  | bad b => rw [hE] at h; cases h
  | ok y =>
   rw [hE] at h
   have h1 := ado_vmx e (get v n) y hE
   have h2 := get_vmx v n
   have h3 := with_vmx v n y
   have h4 := adoF_vmx r (withV v n y) x h
   omega
theorem adoS_vmx : ∀ (s : List (Int × Int × V × E)) (l o l' o' : List V) (B : Nat), adoS s l o = .ok (l', o') → vmxL l ≤ B → vmxL o ≤ B → o'.length ≤ o.length + l.length + eszS s ∧ vmxL o' ≤ B + eszS s
 | [], l, o, l', o', B, h, hl, ho => by rw [adoS] at h; cases h; rw [eszS]; omega
 | (k, c, v, e) :: r, l, o, l', o', B, h, hl, ho => by
  rw [adoS.eq_def] at h
  rw [eszS]
  simp only at h
  have app : ∀ (a b : List V) (C : Nat), vmxL a ≤ C → vmxL b ≤ C → vmxL (a ++ b) ≤ C := fun a b C ha hb => vmxL_le (fun e he => by
   rcases List.mem_append.1 he with he | he
   ·have := vmxL_mem he; omega
   ·have := vmxL_mem he; omega)
  split at h
  ·split at h
   ·cases h
   ·have h1 := adoS_vmx r _ _ l' o' B h (vmxL_le (fun e he => by have := vmxL_mem (List.mem_of_mem_drop he); omega)) (app _ _ _ ho (vmxL_le (fun e he => by have := vmxL_mem (List.mem_of_mem_take he); omega)))
    simp only [List.length_append, List.length_take, List.length_drop] at h1
    omega
  ·split at h
   ·cases l with
    | nil => cases h
    | cons x t =>
     simp only at h
     rw [vmxL] at hl
     split at h
     ·have h1 := adoS_vmx r t o l' o' B h (by omega) ho
      simp only [List.length_cons]
      omega
     ·cases h
   ·split at h
    ·have h1 := adoS_vmx r l (o ++ [v]) l' o' (B + vmx v) h (by omega) (app _ _ _ (by omega) (by rw [vmxL, vmxL]; omega))
     simp only [List.length_append, List.length_singleton] at h1
     omega
    ·cases l with
     | nil => cases h
     | cons x t =>
      simp only at h
      rw [vmxL] at hl
      cases hE : ado e x with
      | bad b => rw [hE] at h; cases h
      | ok y =>
       rw [hE] at h
       have h0 := ado_vmx e x y hE
       simp only at h
       split at h
       ·have h1 := adoS_vmx r t (o ++ [y]) l' o' (B + esz e) h (by omega) (app _ _ _ (by omega) (by rw [vmxL, vmxL]; omega))
        simp only [List.length_append, List.length_singleton] at h1
        simp only [List.length_cons]
        omega
       ·cases h
theorem adoK_vmx : ∀ (f : List (V × E)) (v x : V), adoK f v = .ok x → vmx x ≤ vmx v + eszK f
 | [], v, x, h => by rw [adoK] at h; cases h; rw [eszK]; omega
 | (k, e) :: r, v, x, h => by
  rw [adoK] at h
  rw [eszK]
  split at h
  ·cases h
  ·cases hE : ado e (find v k) with
   | bad b => rw [hE] at h; cases h
   | ok y =>
    rw [hE] at h
    have h1 := ado_vmx e (find v k) y hE
    have h2 := find_vmx v k
    have h3 := put_vmx v k y
    simp only at h
    split at h
    ·cases h
    ·have h4 := adoK_vmx r (putV v k y) x h
     omega
end
end Go.Proofs.YtebekgdjknenlaaGreatDoor.Val
