/- Plain facts for compose.into: what becomes of the fields; sizes on the way. -/
import Derived.Test.YtlmbcoecipbblaaGreatDoorEC3
set_option linter.unusedVariables false
set_option linter.unusedSimpArgs false
namespace Go.Proofs.YtlmbcoecipbblaaGreatDoor
open Go.RowKit
open Val (V E right cmp eright ado Res avalue esm esmF esmS esmK vmx esz eszF eszS eszK e0 swapE swapF PairP inv)
theorem Val.eszF_append : ∀ (a b : List (Int × E)), eszF (a ++ b) = eszF a + eszF b
 | [], b => by simp [eszF]
 | (n, e) :: r, b => by rw [List.cons_append, eszF, eszF, Val.eszF_append r b]; omega
theorem Val.esmF_append : ∀ (a b : List (Int × E)), esmF (a ++ b) ↔ esmF a ∧ esmF b
 | [], b => by simp [esmF]
 | (n, e) :: r, b => by rw [List.cons_append, esmF, esmF, Val.esmF_append r b, and_assoc]
theorem Val.esmF_mem : ∀ {f : List (Int × E)}, esmF f → ∀ x ∈ f, esm x.2
 | (n, e) :: r, h, x, hx => by
  rw [esmF] at h
  rcases List.mem_cons.1 hx with rfl | hx
  ·exact h.1
  ·exact Val.esmF_mem h.2 x hx
def Val.putF (out : List (Int × E)) (f : Int × E) : List (Int × E) := if f.2.kind = 0 then out else out ++ [f]
theorem Val.putF_sz (out : List (Int × E)) (f : Int × E) : eszF (Val.putF out f) ≤ eszF out + (1 + esz f.2) := by
 unfold Val.putF
 split
 ·omega
 ·obtain ⟨n, e⟩ := f; rw [Val.eszF_append, eszF, eszF]; simp only; omega
theorem Val.putF_m {out : List (Int × E)} {f : Int × E} (h : esmF out) (hf : esm f.2) : esmF (Val.putF out f) := by
 unfold Val.putF
 split
 ·exact h
 ·rw [Val.esmF_append]; obtain ⟨n, e⟩ := f; rw [esmF, esmF]; exact ⟨h, hf, trivial⟩
def intoL (pr : E → E → Res E) : List (Int × E) → List (Int × E) → List (Int × E) → Res (List (Int × E))
 | [], [], out => .ok out
 | f :: fs, [], out => intoL pr fs [] (Val.putF out f)
 | [], g :: gs, out => intoL pr [] gs (Val.putF out g)
 | f :: fs, g :: gs, out => if f.1 < g.1 then intoL pr fs (g :: gs) (Val.putF out f) else if g.1 < f.1 then intoL pr (f :: fs) gs (Val.putF out g) else match pr f.2 g.2 with
  | .bad b => .bad b
  | .ok x => intoL pr fs gs (Val.putF out (f.1, x))
termination_by fs gs => fs.length + gs.length
noncomputable def prC (er : Errs) (fn : FuncId) (d e : E) : Res E := open Classical in if h : CoE er fn d e then h.choose else .bad 12
theorem prC_ok {er : Errs} {fn : FuncId} {d e : E} (h : CoE er fn d e) : PairP d e (prC er fn d e) ∧ ∃ c ev, EEr er (prC er fn d e) c ev ∧ ∀ dc ec, dc = encE d → ec = encE e → ∀ fr, PRun Tryz.prog (gE er) fn [.agg (cellsP 21 dc), .agg (cellsP 21 ec)] [] fr (.tup [.agg (cellsP 21 c), .d fun _ => ev]) [] := by
 unfold prC
 rw [dif_pos h]
 obtain ⟨c, ev, h1, h2, h3, h4⟩ := h.choose_spec
 exact ⟨h1, c, ev, h3, h4⟩
structure CInto (er : Errs) (d e : E) (fs gs out : List (Int × E)) : Prop where
 fn : ∀ f ∈ fs, ∀ g ∈ gs, CoE er 17 f.2 g.2
 mf : ∀ f ∈ fs, esm f.2
 mg : ∀ g ∈ gs, esm g.2
 mo : esmF out
 sz : eszF out + 3 * (eszF fs + eszF gs) ≤ 3 * (eszF d.fields + eszF e.fields)
section
variable {er : Errs} {d e : E} {fs gs out : List (Int × E)} {f g : Int × E}
theorem CInto.start (hm : esm d) (hn : esm e) (hf : ∀ f ∈ d.fields, ∀ g ∈ e.fields, CoE er 17 f.2 g.2) : CInto er d e d.fields e.fields [] := by
 refine ⟨hf, ?_, ?_, by rw [esmF]; trivial, by rw [eszF]; omega⟩
 ·obtain ⟨k, o, n, f, r, ro, rn, s, ks⟩ := d; rw [esm] at hm; exact Val.esmF_mem hm.2.1
 ·obtain ⟨k, o, n, f, r, ro, rn, s, ks⟩ := e; rw [esm] at hn; exact Val.esmF_mem hn.2.1
theorem CInto.left (h : CInto er d e (f :: fs) gs out) : CInto er d e fs gs (Val.putF out f) :=
 ⟨fun x hx => h.fn x (List.mem_cons_of_mem _ hx), fun x hx => h.mf x (List.mem_cons_of_mem _ hx), h.mg, Val.putF_m h.mo (h.mf f (List.mem_cons_self ..)), by
  have h1 := h.sz; have h2 := Val.putF_sz out f
  obtain ⟨n, x⟩ := f; rw [eszF] at h1; simp only at h2; omega⟩
theorem CInto.right (h : CInto er d e fs (g :: gs) out) : CInto er d e fs gs (Val.putF out g) :=
 ⟨fun x hx y hy => h.fn x hx y (List.mem_cons_of_mem _ hy), h.mf, fun x hx => h.mg x (List.mem_cons_of_mem _ hx), Val.putF_m h.mo (h.mg g (List.mem_cons_self ..)), by
  have h1 := h.sz; have h2 := Val.putF_sz out g
  obtain ⟨n, x⟩ := g; rw [show eszF ((n, x) :: gs) = 1 + esz x + eszF gs from by rw [eszF]] at h1; simp only at h2; omega⟩
theorem CInto.both (h : CInto er d e (f :: fs) (g :: gs) out) {x : E} (hx : PairP f.2 g.2 (.ok x)) (n : Int) : CInto er d e fs gs (Val.putF out (n, x)) :=
 ⟨fun x hx y hy => h.fn x (List.mem_cons_of_mem _ hx) y (List.mem_cons_of_mem _ hy), fun x hx => h.mf x (List.mem_cons_of_mem _ hx), fun x hx => h.mg x (List.mem_cons_of_mem _ hx), Val.putF_m h.mo (hx.2 x rfl).1, by
  have h1 := h.sz; have h2 := Val.putF_sz out (n, x); have h3 := (hx.2 x rfl).2
  obtain ⟨a, y⟩ := f; obtain ⟨b, z⟩ := g; rw [eszF, eszF] at h1; simp only at h2 h3; omega⟩
theorem CInto.len (h : CInto er d e fs gs out) (hs : esz d + esz e ≤ 30000) : out.length ≤ 90000 := by
 have h1 := h.sz
 have hl : ∀ l : List (Int × E), l.length ≤ eszF l := fun l => by
  induction l with
  | nil => simp
  | cons q r ih => obtain ⟨n, x⟩ := q; rw [eszF, List.length_cons]; omega
 have h2 := hl out
 have h3 := (Val.esz_parts d).2.2.1; have h4 := (Val.esz_parts e).2.2.1
 omega
end
def Val.intoE (out : List (Int × E)) : E := .mk 2 Val.v0 Val.v0 out false ByteArray.empty ByteArray.empty [] []
def Val.intoR (d e : E) (out : List (Int × E)) : Res E := match Val.restsF d e (Val.intoE out) with
 | .bad b => .bad b
 | .ok y => if out.length = 0 ∧ y.rests = false then .ok e0 else .ok y
theorem Val.restsF_fields {d e : E} {out : List (Int × E)} {y : E} (h : Val.restsF d e (Val.intoE out) = .ok y) : y.fields = out := by
 have hf : ∀ ro rn : ByteArray, (Val.restsFin (Val.intoE out) ro rn).fields = out := fun ro rn => by
  unfold Val.restsFin Val.setR
  split <;> rfl
 unfold Val.restsF at h
 split at h
 ·split at h
  ·cases h; exact hf _ _
  ·cases h
 ·split at h
  ·cases h; exact hf _ _
  ·split at h
   ·cases h; exact hf _ _
   ·cases h; exact hf _ _
theorem Val.fin_ok {d e : E} {out : List (Int × E)} {ro rn : ByteArray} (h1 : ro.size ≤ 1000) (h2 : rn.size ≤ 1000) (hm : esmF out) (hs : eszF out ≤ 3 * (esz d + esz e)) : esm (Val.restsFin (Val.intoE out) ro rn) ∧ esz (Val.restsFin (Val.intoE out) ro rn) ≤ 3 * (esz d + esz e) := by
 have hz : ∀ r a b, esz (Val.setR (Val.intoE out) r a b) = eszF out := fun r a b => by
  unfold Val.setR; rw [esz]; simp only [Val.intoE, E.old, E.new, E.fields, E.steps, E.keys, Val.vmx_v0, eszS, eszK]; omega
 have hm2 : ∀ r a b, a.size ≤ 1000 → b.size ≤ 1000 → esm (Val.setR (Val.intoE out) r a b) := fun r a b q1 q2 => by
  unfold Val.setR; rw [esm]; exact ⟨⟨q1, q2⟩, hm, by simp only [Val.intoE, E.steps]; rw [esmS]; trivial, by simp only [Val.intoE, E.keys]; rw [esmK]; trivial⟩
 unfold Val.restsFin
 split
 ·exact ⟨hm2 _ _ _ (by decide) (by decide), by rw [hz]; exact hs⟩
 ·exact ⟨hm2 _ _ _ h1 h2, by rw [hz]; exact hs⟩
theorem Val.esm_rests {d : E} (h : esm d) : d.ro.size ≤ 1000 ∧ d.rn.size ≤ 1000 := by
 obtain ⟨k, o, n, f, r, ro, rn, s, ks⟩ := d; rw [esm] at h; exact h.1
theorem CInto.fin {er : Errs} {d e : E} {out : List (Int × E)} (h : CInto er d e [] [] out) (hd : esm d) (he : esm e) : PairP d e (Val.intoR d e out) := by
 have hs : eszF out ≤ 3 * (esz d + esz e) := by
  have h1 := h.sz
  have h3 := (Val.esz_parts d).2.2.1; have h4 := (Val.esz_parts e).2.2.1
  rw [eszF] at h1; omega
 have hd := Val.esm_rests hd; have he := Val.esm_rests he
 have hok : ∀ ro rn : ByteArray, ro.size ≤ 1000 → rn.size ≤ 1000 → PairP d e (match (.ok (Val.restsFin (Val.intoE out) ro rn) : Res E) with
   | .bad b => .bad b
   | .ok y => if out.length = 0 ∧ y.rests = false then .ok e0 else .ok y) := fun ro rn h1 h2 => by
  have hf := Val.fin_ok h1 h2 h.mo hs
  simp only
  split
  ·exact ⟨fun b hb => (by cases hb), fun x hx => (by cases hx; exact ⟨Val.esm_e0, by rw [Val.esz_e0']; omega⟩)⟩
  ·exact ⟨fun b hb => (by cases hb), fun x hx => (by cases hx; exact hf)⟩
 have hr : Val.restsF d e (Val.intoE out) = .bad 13 ∨ ∃ ro rn : ByteArray, Val.restsF d e (Val.intoE out) = .ok (Val.restsFin (Val.intoE out) ro rn) ∧ ro.size ≤ 1000 ∧ rn.size ≤ 1000 := by
  unfold Val.restsF
  split
  ·split
   ·exact .inr ⟨_, _, rfl, hd.1, he.2⟩
   ·exact .inl rfl
  ·split
   ·exact .inr ⟨_, _, rfl, hd.1, hd.2⟩
   ·split
    ·exact .inr ⟨_, _, rfl, he.1, he.2⟩
    ·exact .inr ⟨_, _, rfl, Nat.zero_le _, Nat.zero_le _⟩
 unfold Val.intoR
 rcases hr with h0 | ⟨ro, rn, h0, h1, h2⟩
 ·rw [h0]; exact ⟨fun b hb => (by cases hb; exact .inr rfl), fun x hx => (by cases hx)⟩
 ·rw [h0]; exact hok _ _ h1 h2
def Val.intoA (d e : E) : Res (List (Int × E)) → Res E
 | .bad b => .bad b
 | .ok out => Val.intoR d e out
theorem intoL_pair {er : Errs} {d e : E} (hd : esm d) (he : esm e) : ∀ (fs gs out : List (Int × E)), CInto er d e fs gs out → PairP d e (Val.intoA d e (intoL (prC er 17) fs gs out)) := by
 intro fs gs
 induction hn : fs.length + gs.length using Nat.strongRecOn generalizing fs gs with
 | ind n ih =>
  intro out h
  cases fs with
  | nil =>
   cases gs with
   | nil => rw [intoL]; exact h.fin hd he
   | cons g gs => rw [intoL]; exact ih (([] : List (Int × E)).length + gs.length) (by simp only [List.length_cons, List.length_nil] at hn ⊢; omega) [] gs rfl _ h.right
  | cons f fs =>
   cases gs with
   | nil => rw [intoL]; exact ih (fs.length + ([] : List (Int × E)).length) (by simp only [List.length_cons, List.length_nil] at hn ⊢; omega) fs [] rfl _ h.left
   | cons g gs =>
    rw [intoL]
    split
    ·exact ih (fs.length + (g :: gs).length) (by simp only [List.length_cons] at hn ⊢; omega) fs (g :: gs) rfl _ h.left
    ·split
     ·exact ih ((f :: fs).length + gs.length) (by simp only [List.length_cons] at hn ⊢; omega) (f :: fs) gs rfl _ h.right
     ·have hp := (prC_ok (h.fn f (List.mem_cons_self ..) g (List.mem_cons_self ..))).1
      split
      ·rename_i b hb
       rw [hb] at hp
       exact ⟨fun b' hb' => (by cases hb'; exact hp.1 b rfl), fun x hx => (by cases hx)⟩
      ·rename_i x hx
       rw [hx] at hp
       exact ih (fs.length + gs.length) (by simp only [List.length_cons] at hn ⊢; omega) fs gs rfl _ (h.both hp _)
end Go.Proofs.YtlmbcoecipbblaaGreatDoor
namespace Go.Proofs.YtlmbcoecipbblaaGreatDoor
open Val (V E right cmp eright ado adoF adoS adoK Res esm esmF esmS esmK vmx esz eszF eszS eszK efields esteps ekeys get find withV putV mkM mkP mkL partB setRest headKind KI KP KeysOf allF allS allK)
mutual
theorem Val.ado_bad : ∀ (e : E) (v : V) (b : Nat), ado e v = .bad b → b = 12 ∨ b = 13
 | .mk k o n f r ro rn s ks, v, b, h => by
  rw [ado] at h
  split at h
  ·split at h
   ·cases h
   ·cases h; decide
  ·split at h
   ·split at h
    ·cases hF : adoF f v with
     | bad b' => rw [hF] at h; cases h; exact Val.adoF_bad f v _ hF
     | ok w =>
      rw [hF] at h; simp only at h
      split at h
      ·split at h
       ·cases h
       ·cases h; decide
      ·cases h
    ·cases h; decide
   ·split at h
    ·split at h
     ·cases hF : adoS s v.list [] with
      | bad b' => rw [hF] at h; cases h; exact Val.adoS_bad s _ _ _ hF
      | ok p =>
       rw [hF] at h; simp only at h
       split at h
       ·cases h; decide
       ·cases h
     ·cases h; decide
    ·split at h
     ·split at h
      ·exact Val.adoK_bad ks v b h
      ·cases h; decide
     ·cases h
theorem Val.adoF_bad : ∀ (f : List (Int × E)) (v : V) (b : Nat), adoF f v = .bad b → b = 12 ∨ b = 13
 | [], v, b, h => by rw [adoF] at h; cases h
 | (n, e) :: r, v, b, h => by
  rw [adoF] at h
  cases hE : ado e (get v n) with
  | bad b' => rw [hE] at h; cases h; exact Val.ado_bad e _ _ hE
  | ok x => rw [hE] at h; exact Val.adoF_bad r _ b h
theorem Val.adoS_bad : ∀ (s : List (Int × Int × V × E)) (l o : List V) (b : Nat), adoS s l o = .bad b → b = 12 ∨ b = 13
 | [], l, o, b, h => by rw [adoS] at h; cases h
 | (k, c, v, e) :: r, l, o, b, h => by
  rw [adoS.eq_def] at h; simp only at h
  split at h
  ·split at h
   ·cases h; decide
   ·exact Val.adoS_bad r _ _ b h
  ·split at h
   ·cases l with
    | nil => simp only at h; cases h; decide
    | cons x l' =>
     simp only at h
     split at h
     ·exact Val.adoS_bad r _ _ b h
     ·cases h; decide
   ·split at h
    ·exact Val.adoS_bad r _ _ b h
    ·cases l with
     | nil => simp only at h; cases h; decide
     | cons x l' =>
      simp only at h
      cases hE : ado e x with
      | bad b' => rw [hE] at h; cases h; exact Val.ado_bad e _ _ hE
      | ok y =>
       rw [hE] at h; simp only at h
       split at h
       ·exact Val.adoS_bad r _ _ b h
       ·cases h; decide
theorem Val.adoK_bad : ∀ (f : List (V × E)) (v : V) (b : Nat), adoK f v = .bad b → b = 12 ∨ b = 13
 | [], v, b, h => by rw [adoK] at h; cases h
 | (n, e) :: r, v, b, h => by
  rw [adoK] at h
  split at h
  ·cases h; decide
  ·cases hE : ado e (find v n) with
   | bad b' => rw [hE] at h; cases h; exact Val.ado_bad e _ _ hE
   | ok x =>
    rw [hE] at h; simp only at h
    split at h
    ·cases h; decide
    ·exact Val.adoK_bad r _ b h
end
end Go.Proofs.YtlmbcoecipbblaaGreatDoor
namespace Go.Proofs.YtlmbcoecipbblaaGreatDoor
open Go.RowKit
open Val (V E right cmp eright ado Res avalue esm esmF esmS esmK vmx esz eszF eszS eszK e0 swapE swapF PairP inv partB)
def StpB (s : Stp) : Prop := ((s.1 = 1 ∧ 1 ≤ s.2.1 ∧ s.2.1 ≤ 1048576) ∨ (s.1 = 2 ∧ partB s.2.2.1 = true) ∨ (s.1 = 3 ∧ partB s.2.2.1 = true) ∨ (s.1 = 4 ∧ eright s.2.2.2 = true)) ∧ esm s.2.2.2
def curK : List Stp → Int
 | [] => 0
 | s :: _ => s.1
def one1 (s : Stp) : Stp := if s.1 = 1 then (s.1, 1, s.2.2) else s
def nextC : List Stp → Int → List Stp × Int
 | [], k => ([], k)
 | s :: r, k => if s.1 = 1 ∧ k + 1 < s.2.1 then (s :: r, k + 1) else (r, 0)
def runC (l : List Stp) (k : Int) (m : List Stp) (j : Int) : Int := match l, m with
 | s :: _, t :: _ => if s.1 = 1 ∧ t.1 = 1 then min (s.2.1 - k) (t.2.1 - j) else 0
 | _, _ => 0
def skipC : List Stp → Int → Int → List Stp × Int
 | [], k, n => ([], k)
 | s :: r, k, n => if k + n = s.2.1 then (r, 0) else (s :: r, k + n)
def afterC (pr : E → E → Res E) (s t : Stp) : Res (List Stp) :=
 if s.1 = 3 then
  if t.1 = 1 then .ok [s] else if t.1 = 2 then (if cmp s.2.2.1 t.2.2.1 = 0 then .ok [] else .bad 13) else match avalue t.2.2.2 s.2.2.1 with
   | .bad b => .bad b
   | .ok v => .ok [(3, 0, v, e0)]
 else if s.1 = 4 then
  if t.1 = 1 then .ok [s] else if t.1 = 2 then (match avalue (inv s.2.2.2) t.2.2.1 with
   | .bad b => .bad b
   | .ok v => .ok [(2, 0, v, e0)]) else match pr s.2.2.2 t.2.2.2 with
   | .bad b => .bad b
   | .ok x => .ok [(4, 0, Val.v0, x)]
 else .ok [t]
def rowL (pr : E → E → Res E) : Nat → List Stp → Int → List Stp → Int → List Stp → Res (List Stp)
 | 0, _, _, _, _, out => .ok out
 | n + 1, l, k, m, j, out =>
  if l = [] ∧ m = [] then .ok out
  else if 0 < runC l k m j then rowL pr n (skipC l k (runC l k m j)).1 (skipC l k (runC l k m j)).2 (skipC m j (runC l k m j)).1 (skipC m j (runC l k m j)).2 (out ++ [(1, runC l k m j, Val.v0, e0)])
  else match l, m with
   | s :: r, m => if s.1 = 2 then rowL pr n r 0 m j (out ++ [s]) else match m with
    | t :: q => if t.1 = 3 then rowL pr n (s :: r) k q 0 (out ++ [t]) else match afterC pr (one1 s) (one1 t) with
     | .bad b => .bad b
     | .ok o => rowL pr n (nextC (s :: r) k).1 (nextC (s :: r) k).2 (nextC (t :: q) j).1 (nextC (t :: q) j).2 (out ++ o)
    | [] => .bad 13
   | [], t :: q => if t.1 = 3 then rowL pr n [] k q 0 (out ++ [t]) else .bad 13
   | [], [] => .ok out
theorem nextC_c (s : Stp) (r : List Stp) (k : Int) : nextC (s :: r) k = if s.1 = 1 ∧ k + 1 < s.2.1 then (s :: r, k + 1) else (r, 0) := rfl
theorem skipC_c (s : Stp) (r : List Stp) (k n : Int) : skipC (s :: r) k n = if k + n = s.2.1 then (r, 0) else (s :: r, k + n) := rfl
theorem runC_c (s t : Stp) (r q : List Stp) (k j : Int) : runC (s :: r) k (t :: q) j = if s.1 = 1 ∧ t.1 = 1 then min (s.2.1 - k) (t.2.1 - j) else 0 := rfl
def cntS (s : Stp) : Nat := if s.1 = 1 then s.2.1.toNat else 1
def cnts (l : List Stp) : Nat := (l.map cntS).sum
structure Cur (l : List Stp) (k : Int) : Prop where
 ok : ∀ s ∈ l, StpB s
 k0 : 0 ≤ k
 kn : k = 0 ∨ ∃ s r, l = s :: r ∧ s.1 = 1 ∧ k < s.2.1
def leftC (l : List Stp) (k : Int) : Nat := cnts l - k.toNat
theorem StpB.cnt {s : Stp} (h : StpB s) : 1 ≤ cntS s := by
 unfold cntS
 split
 ·rename_i h1
  rcases h.1 with h | h | h | h <;> first | omega | (rw [h1] at h; exact absurd h.1 (by decide))
 ·exact Nat.le_refl _
theorem StpB.keep {s : Stp} (h : StpB s) (h1 : s.1 = 1) : 1 ≤ s.2.1 ∧ s.2.1 ≤ 1048576 := by
 rcases h.1 with h | h | h | h
 ·exact h.2
 all_goals (rw [h1] at h; exact absurd h.1 (by decide))
theorem Cur.tail {s : Stp} {r : List Stp} {k : Int} (h : Cur (s :: r) k) : Cur r 0 := ⟨fun x hx => h.ok x (List.mem_cons_of_mem _ hx), Int.le_refl _, .inl rfl⟩
theorem Cur.lt {s : Stp} {r : List Stp} {k : Int} (h : Cur (s :: r) k) : k.toNat < cntS s := by
 have h1 := (h.ok s (List.mem_cons_self ..)).cnt
 rcases h.kn with h0 | ⟨s', r', e, h2, h3⟩
 ·rw [h0]; exact h1
 ·cases e
  unfold cntS; rw [if_pos h2]
  have := h.k0; omega
theorem Cur.zero {s : Stp} {r : List Stp} {k : Int} (h : Cur (s :: r) k) (h1 : ¬ s.1 = 1) : k = 0 := by
 rcases h.kn with h0 | ⟨s', r', e, h2, h3⟩
 ·exact h0
 ·cases e; exact absurd h2 h1
theorem Cur.klt {s : Stp} {r : List Stp} {k : Int} (h : Cur (s :: r) k) (h1 : s.1 = 1) : k < s.2.1 := by
 have h2 := (h.ok s (List.mem_cons_self ..)).keep h1
 rcases h.kn with h0 | ⟨s', r', e, h2, h3⟩
 ·omega
 ·cases e; exact h3
theorem cnts_cons (s : Stp) (r : List Stp) : cnts (s :: r) = cntS s + cnts r := by unfold cnts; simp
theorem left_cons {s : Stp} {r : List Stp} {k : Int} (h : Cur (s :: r) k) : leftC (s :: r) k = (cntS s - k.toNat) + cnts r ∧ leftC r 0 + 1 ≤ leftC (s :: r) k := by
 have := h.lt
 unfold leftC
 rw [cnts_cons]
 exact ⟨by omega, by show cnts r - 0 + 1 ≤ _; omega⟩
theorem Cur.next {s : Stp} {r : List Stp} {k : Int} (h : Cur (s :: r) k) : Cur (nextC (s :: r) k).1 (nextC (s :: r) k).2 ∧ leftC (nextC (s :: r) k).1 (nextC (s :: r) k).2 + 1 ≤ leftC (s :: r) k := by
 have hl := left_cons h
 rw [nextC_c]
 split
 ·rename_i h1
  have hk := h.k0
  refine ⟨⟨h.ok, by show 0 ≤ k + 1; omega, .inr ⟨s, r, rfl, h1.1, h1.2⟩⟩, ?_⟩
  rw [hl.1]
  show cnts (s :: r) - (k + 1).toNat + 1 ≤ _
  have := h.lt
  rw [cnts_cons]
  have h2 : cntS s = s.2.1.toNat := by unfold cntS; rw [if_pos h1.1]
  omega
 ·exact ⟨h.tail, hl.2⟩
theorem Cur.skip {s : Stp} {r : List Stp} {k n : Int} (h : Cur (s :: r) k) (h1 : s.1 = 1) (hn : 0 < n) (hm : n ≤ s.2.1 - k) : Cur (skipC (s :: r) k n).1 (skipC (s :: r) k n).2 ∧ leftC (skipC (s :: r) k n).1 (skipC (s :: r) k n).2 + 1 ≤ leftC (s :: r) k := by
 have hl := left_cons h
 have hk := h.k0
 rw [skipC_c]
 split
 ·exact ⟨h.tail, hl.2⟩
 ·refine ⟨⟨h.ok, by show 0 ≤ k + n; omega, .inr ⟨s, r, rfl, h1, by omega⟩⟩, ?_⟩
  rw [hl.1]
  show cnts (s :: r) - (k + n).toNat + 1 ≤ _
  rw [cnts_cons]
  have h2 : cntS s = s.2.1.toNat := by unfold cntS; rw [if_pos h1]
  omega
theorem run_pos {l m : List Stp} {k j : Int} (h : 0 < runC l k m j) : ∃ s r t q, l = s :: r ∧ m = t :: q ∧ s.1 = 1 ∧ t.1 = 1 ∧ runC l k m j = min (s.2.1 - k) (t.2.1 - j) := by
 unfold runC at h ⊢
 split at h
 ·rename_i s r t q
  split at h
  ·rename_i h1; exact ⟨s, r, t, q, rfl, rfl, h1.1, h1.2, by simp only [h1, and_self, if_true]⟩
  ·omega
 ·omega
theorem run_both {s t : Stp} {r q : List Stp} {k j : Int} (hc : Cur (s :: r) k) (hd : Cur (t :: q) j) (h : ¬ 0 < runC (s :: r) k (t :: q) j) : ¬ (s.1 = 1 ∧ t.1 = 1) := fun ⟨h1, h2⟩ => h (by
 have a := hc.klt h1; have b := hd.klt h2
 rw [runC_c, if_pos ⟨h1, h2⟩]; omega)
structure CRow (er : Errs) (d e : E) (l : List Stp) (k : Int) (m : List Stp) (j : Int) (out : List Stp) : Prop where
 fn : ∀ s ∈ l, ∀ t ∈ m, s.1 = 4 → t.1 = 4 → CoE er 17 s.2.2.2 t.2.2.2
 cl : Cur l k
 cm : Cur m j
 mo : esmS out
 sz : eszS out + 3 * (eszS l + eszS m) ≤ 3 * (eszS d.steps + eszS e.steps)
theorem eszS_cons (s : Stp) (r : List Stp) : eszS (s :: r) = 1 + vmx s.2.2.1 + esz s.2.2.2 + eszS r := by obtain ⟨a, b, c, x⟩ := s; rw [eszS]
theorem eszS_one (s : Stp) : eszS [s] = 1 + vmx s.2.2.1 + esz s.2.2.2 := by rw [eszS_cons, show eszS [] = 0 from by rw [eszS], Nat.add_zero]
theorem esmS_one {s : Stp} (h : esm s.2.2.2) : esmS [s] := by obtain ⟨a, b, c, x⟩ := s; rw [esmS, esmS]; exact ⟨h, trivial⟩
theorem one1_of (s : Stp) : (one1 s).1 = s.1 ∧ (one1 s).2.2 = s.2.2 := by unfold one1; split <;> exact ⟨rfl, rfl⟩
section
variable {er : Errs} {d e : E} {s t : Stp} {l m r q out : List Stp} {k j : Int}
theorem CRow.push (h : CRow er d e l k m j out) {l' m' : List Stp} {k' j' : Int} (o : List Stp) (hl : ∀ x ∈ l', x ∈ l) (hm : ∀ x ∈ m', x ∈ m) (c1 : Cur l' k') (c2 : Cur m' j') (ho : esmS o) (hs : eszS o + 3 * (eszS l' + eszS m') ≤ 3 * (eszS l + eszS m)) : CRow er d e l' k' m' j' (out ++ o) :=
 ⟨fun x hx y hy => h.fn x (hl x hx) y (hm y hy), c1, c2, (Val.esmS_append _ _).2 ⟨h.mo, ho⟩, by have := h.sz; rw [Val.eszS_append]; omega⟩
theorem CRow.drop (h : CRow er d e (s :: r) k m j out) : CRow er d e r 0 m j (out ++ [s]) :=
 h.push [s] (fun x hx => List.mem_cons_of_mem _ hx) (fun x hx => hx) h.cl.tail h.cm (esmS_one (h.cl.ok s (List.mem_cons_self ..)).2) (by rw [eszS_one, eszS_cons]; omega)
theorem CRow.put (h : CRow er d e l k (t :: q) j out) : CRow er d e l k q 0 (out ++ [t]) :=
 h.push [t] (fun x hx => hx) (fun x hx => List.mem_cons_of_mem _ hx) h.cl h.cm.tail (esmS_one (h.cm.ok t (List.mem_cons_self ..)).2) (by rw [eszS_one, eszS_cons t]; omega)
theorem esz_le {s : Stp} {r : List Stp} {k n : Int} : eszS (skipC (s :: r) k n).1 ≤ eszS (s :: r) ∧ eszS (nextC (s :: r) k).1 ≤ eszS (s :: r) ∧ (∀ x ∈ (skipC (s :: r) k n).1, x ∈ s :: r) ∧ ∀ x ∈ (nextC (s :: r) k).1, x ∈ s :: r := by
 have h0 : eszS r ≤ eszS (s :: r) := by rw [eszS_cons]; omega
 have h1 : ∀ x ∈ r, x ∈ s :: r := fun x hx => List.mem_cons_of_mem _ hx
 rw [skipC_c, nextC_c]
 refine ⟨?_, ?_, ?_, ?_⟩ <;> split <;> first | exact h0 | exact Nat.le_refl _ | exact h1 | exact fun x hx => hx
theorem CRow.run (h : CRow er d e l k m j out) (hp : 0 < runC l k m j) :
  CRow er d e (skipC l k (runC l k m j)).1 (skipC l k (runC l k m j)).2 (skipC m j (runC l k m j)).1 (skipC m j (runC l k m j)).2 (out ++ [(1, runC l k m j, Val.v0, e0)]) ∧
  leftC (skipC l k (runC l k m j)).1 (skipC l k (runC l k m j)).2 + leftC (skipC m j (runC l k m j)).1 (skipC m j (runC l k m j)).2 + 1 ≤ leftC l k + leftC m j := by
 obtain ⟨s, r, t, q, rfl, rfl, h1, h2, hr⟩ := run_pos hp
 have p1 := h.cl.skip h1 hp (by rw [hr]; omega)
 have p2 := h.cm.skip h2 hp (by rw [hr]; omega)
 have q1 := esz_le (s := s) (r := r) (k := k) (n := runC (s :: r) k (t :: q) j)
 have q2 := esz_le (s := t) (r := q) (k := j) (n := runC (s :: r) k (t :: q) j)
 refine ⟨h.push _ q1.2.2.1 q2.2.2.1 p1.1 p2.1 (esmS_one Val.esm_e0) ?_, by omega⟩
 have hz : eszS [((1 : Int), runC (s :: r) k (t :: q) j, Val.v0, e0)] = 1 := by rw [eszS_one]; show 1 + vmx Val.v0 + esz e0 = 1; rw [Val.vmx_v0, Val.esz_e0']
 rw [hz]
 have hx : 1 + eszS (skipC (s :: r) k (runC (s :: r) k (t :: q) j)).1 ≤ eszS (s :: r) ∨ 1 + eszS (skipC (t :: q) j (runC (s :: r) k (t :: q) j)).1 ≤ eszS (t :: q) := by
  have : k + runC (s :: r) k (t :: q) j = s.2.1 ∨ j + runC (s :: r) k (t :: q) j = t.2.1 := by rw [hr]; omega
  rcases this with e | e
  ·left; rw [skipC_c, if_pos e, eszS_cons]; show 1 + eszS r ≤ _; omega
  ·right; rw [skipC_c t, if_pos e, eszS_cons t]; show 1 + eszS q ≤ _; omega
 omega
theorem CRow.after (h : CRow er d e (s :: r) k (t :: q) j out) (hs : eszS d.steps + eszS e.steps ≤ 30000) (hn : ¬ 0 < runC (s :: r) k (t :: q) j) (hs2 : ¬ s.1 = 2) (ht3 : ¬ t.1 = 3) :
  (∀ b, afterC (prC er 17) (one1 s) (one1 t) = .bad b → b = 12 ∨ b = 13) ∧ ∀ o, afterC (prC er 17) (one1 s) (one1 t) = .ok o →
   o.length ≤ 1 ∧ CRow er d e (nextC (s :: r) k).1 (nextC (s :: r) k).2 (nextC (t :: q) j).1 (nextC (t :: q) j).2 (out ++ o) := by
 obtain ⟨o1, o2⟩ := one1_of s
 obtain ⟨o3, o4⟩ := one1_of t
 have B1 := h.cl.ok s (List.mem_cons_self ..); have B2 := h.cm.ok t (List.mem_cons_self ..)
 have n1 := h.cl.next; have n2 := h.cm.next
 have z1 := (esz_le (s := s) (r := r) (k := k) (n := 0)).2; have z2 := (esz_le (s := t) (r := q) (k := j) (n := 0)).2
 have nb := run_both h.cl h.cm hn
 have full : ∀ {s : Stp} {r : List Stp} {k : Int}, ¬ s.1 = 1 → eszS (nextC (s :: r) k).1 + (1 + vmx s.2.2.1 + esz s.2.2.2) = eszS (s :: r) := fun {s r k} hne => by
  rw [nextC_c, if_neg (fun h => hne h.1), eszS_cons]; show eszS r + _ = _; omega
 have go : ∀ o : List Stp, o.length ≤ 1 → esmS o → (eszS o + 3 * (eszS (nextC (s :: r) k).1 + eszS (nextC (t :: q) j).1) ≤ 3 * (eszS (s :: r) + eszS (t :: q))) → ∀ o', Res.ok o = Res.ok o' → o'.length ≤ 1 ∧ CRow er d e (nextC (s :: r) k).1 (nextC (s :: r) k).2 (nextC (t :: q) j).1 (nextC (t :: q) j).2 (out ++ o') := fun o p1 p2 p3 o' ho => by
  cases ho; exact ⟨p1, h.push o z1.2.2 z2.2.2 n1.1 n2.1 p2 p3⟩
 have nobad : ∀ (o : List Stp) (b : Nat), Res.ok o = .bad b → b = 12 ∨ b = 13 := fun o b hb => (by cases hb)
 have val : ∀ (e : E) (v : V) (b : Nat), eright e = true → right v = true → avalue e v = .bad b → b = 12 ∨ b = 13 := fun e v b h1 h2 h3 => by
  unfold avalue at h3; rw [if_pos ⟨h1, h2⟩] at h3; exact Val.ado_bad e v b h3
 have bad : ∀ (b : Nat) (o : List Stp), (Res.bad b : Res (List Stp)) = .ok o → o.length ≤ 1 ∧ CRow er d e (nextC (s :: r) k).1 (nextC (s :: r) k).2 (nextC (t :: q) j).1 (nextC (t :: q) j).2 (out ++ o) := fun b o hb => (by cases hb)
 have vz : ∀ (a c : Int) (v : V), eszS [(a, c, v, e0)] = 1 + vmx v := fun a c v => by rw [eszS_one]; show 1 + vmx v + esz e0 = _; rw [Val.esz_e0']; omega
 have partR : ∀ {v : V}, partB v = true → right v = true := fun hv => by unfold Val.partB at hv; rw [Bool.and_eq_true] at hv; exact hv.2
 unfold afterC
 rw [o1, o2, o3, o4]
 have s1 : eszS [one1 s] = 1 + vmx s.2.2.1 + esz s.2.2.2 := by rw [eszS_one, o2]
 have t1 : eszS [one1 t] = 1 + vmx t.2.2.1 + esz t.2.2.2 := by rw [eszS_one, o4]
 have m1 : esmS [one1 s] := esmS_one (by rw [o2]; exact B1.2)
 have m2 : esmS [one1 t] := esmS_one (by rw [o4]; exact B2.2)
 by_cases k3 : s.1 = 3
 ·rw [if_pos k3]
  have f1 := full (s := s) (r := r) (k := k) (by rw [k3]; decide)
  by_cases t1' : t.1 = 1
  ·rw [if_pos t1']; exact ⟨nobad _, go _ (Nat.le_refl _) m1 (by rw [s1]; omega)⟩
  rw [if_neg t1']
  have f2 := full (s := t) (r := q) (k := j) t1'
  by_cases t2 : t.1 = 2
  ·rw [if_pos t2]
   split
   ·exact ⟨nobad _, go [] (by simp) (by rw [esmS]; trivial) (by rw [show eszS ([] : List Stp) = 0 from by rw [eszS]]; omega)⟩
   ·exact ⟨fun b hb => (by cases hb; exact .inr rfl), bad _⟩
  rw [if_neg t2]
  have hv := partR (v := s.2.2.1) (by rcases B1.1 with h | h | h | h <;> first | (exact h.2) | (rw [k3] at h; exact absurd h.1 (by decide)))
  have he : eright t.2.2.2 = true := by rcases B2.1 with h | h | h | h <;> first | (exact h.2) | exact absurd h.1 (by assumption)
  split
  ·rename_i b hb; exact ⟨fun b' hb' => (by cases hb'; exact val _ _ _ he hv hb), bad _⟩
  ·rename_i v hv'
   have := Val.avalue_vmx' hv'
   exact ⟨nobad _, go _ (Nat.le_refl _) (esmS_one Val.esm_e0) (by rw [vz]; omega)⟩
 rw [if_neg k3]
 by_cases k4 : s.1 = 4
 ·rw [if_pos k4]
  have f1 := full (s := s) (r := r) (k := k) (by rw [k4]; decide)
  have he1 : eright s.2.2.2 = true := by rcases B1.1 with h | h | h | h <;> first | (exact h.2) | (rw [k4] at h; exact absurd h.1 (by decide))
  by_cases t1' : t.1 = 1
  ·rw [if_pos t1']; exact ⟨nobad _, go _ (Nat.le_refl _) m1 (by rw [s1]; omega)⟩
  rw [if_neg t1']
  have f2 := full (s := t) (r := q) (k := j) t1'
  by_cases t2 : t.1 = 2
  ·rw [if_pos t2]
   have hv := partR (v := t.2.2.1) (by rcases B2.1 with h | h | h | h <;> first | (exact h.2) | (rw [t2] at h; exact absurd h.1 (by decide)))
   split
   ·rename_i b hb; exact ⟨fun b' hb' => (by cases hb'; exact val _ _ _ (Val.inv_right _ he1) hv hb), bad _⟩
   ·rename_i v hv'
    have := Val.avalue_vmx' hv'
    have hz := Val.inv_esz s.2.2.2
    exact ⟨nobad _, go _ (Nat.le_refl _) (esmS_one Val.esm_e0) (by rw [vz]; omega)⟩
  rw [if_neg t2]
  have k4' : t.1 = 4 := by rcases B2.1 with h | h | h | h <;> first | (exact h.1) | exact absurd h.1 (by assumption)
  have hp := (prC_ok (h.fn s (List.mem_cons_self ..) t (List.mem_cons_self ..) k4 k4')).1
  split
  ·rename_i b hb; rw [hb] at hp; exact ⟨fun b' hb' => (by cases hb'; exact hp.1 b rfl), bad _⟩
  ·rename_i x hx
   rw [hx] at hp
   have hq := hp.2 x rfl
   refine ⟨nobad _, go _ (Nat.le_refl _) (esmS_one hq.1) ?_⟩
   rw [eszS_one]; show 1 + vmx Val.v0 + esz x + _ ≤ _
   rw [Val.vmx_v0]; omega
 rw [if_neg k4]
 have k1 : s.1 = 1 := by rcases B1.1 with h | h | h | h <;> first | (exact h.1) | exact absurd h.1 (by assumption)
 have f2 := full (s := t) (r := q) (k := j) (fun h => nb ⟨k1, h⟩)
 exact ⟨nobad _, go _ (Nat.le_refl _) m2 (by rw [t1]; omega)⟩
end
end Go.Proofs.YtlmbcoecipbblaaGreatDoor
namespace Go.Proofs.YtlmbcoecipbblaaGreatDoor
open Go.RowKit
open Val (V E right cmp eright ado Res avalue esm esmF esmS esmK vmx esz eszF eszS eszK e0 swapE swapF PairP inv partB)
section
variable {pr : E → E → Res E} {n : Nat} {s t : Stp} {l m r q out : List Stp} {k j : Int}
theorem rowL_nn : rowL pr (n + 1) [] k [] j out = .ok out := by unfold rowL; simp
theorem rowL_run (h : 0 < runC l k m j) : rowL pr (n + 1) l k m j out = rowL pr n (skipC l k (runC l k m j)).1 (skipC l k (runC l k m j)).2 (skipC m j (runC l k m j)).1 (skipC m j (runC l k m j)).2 (out ++ [(1, runC l k m j, Val.v0, e0)]) := by
 obtain ⟨s, r, t, q, rfl, rfl, _⟩ := run_pos h
 rw [rowL.eq_def]
 simp only
 rw [if_neg (fun e => by cases e.1), if_pos h]
theorem rowL_drop (h : ¬ 0 < runC (s :: r) k m j) (h2 : s.1 = 2) : rowL pr (n + 1) (s :: r) k m j out = rowL pr n r 0 m j (out ++ [s]) := by
 rw [rowL.eq_def]
 simp only
 rw [if_neg (fun e => by cases e.1), if_neg h]
 simp only [h2, if_true]
theorem rowL_end (h : ¬ 0 < runC (s :: r) k [] j) (h2 : ¬ s.1 = 2) : rowL pr (n + 1) (s :: r) k [] j out = .bad 13 := by
 rw [rowL, if_neg (fun e => by cases e.1), if_neg h]
 simp only [h2, if_false]
theorem rowL_put (h : ¬ 0 < runC (s :: r) k (t :: q) j) (h2 : ¬ s.1 = 2) (h3 : t.1 = 3) : rowL pr (n + 1) (s :: r) k (t :: q) j out = rowL pr n (s :: r) k q 0 (out ++ [t]) := by
 rw [rowL, if_neg (fun e => by cases e.1), if_neg h]
 simp only [h2, if_false, h3, if_true]
theorem rowL_after (h : ¬ 0 < runC (s :: r) k (t :: q) j) (h2 : ¬ s.1 = 2) (h3 : ¬ t.1 = 3) : rowL pr (n + 1) (s :: r) k (t :: q) j out = match afterC pr (one1 s) (one1 t) with
  | .bad b => .bad b
  | .ok o => rowL pr n (nextC (s :: r) k).1 (nextC (s :: r) k).2 (nextC (t :: q) j).1 (nextC (t :: q) j).2 (out ++ o) := by
 rw [rowL, if_neg (fun e => by cases e.1), if_neg h]
 simp only [h2, if_false, h3]
 all_goals (cases afterC pr (one1 s) (one1 t) <;> rfl)
theorem run_nil : runC [] k m j = 0 := by unfold runC; cases m <;> rfl
theorem rowL_put0 (h3 : t.1 = 3) : rowL pr (n + 1) [] k (t :: q) j out = rowL pr n [] k q 0 (out ++ [t]) := by
 rw [rowL, if_neg (fun e => by cases e.2), if_neg (by rw [run_nil]; decide)]
 simp only [h3, if_true]
theorem rowL_end0 (h3 : ¬ t.1 = 3) : rowL pr (n + 1) [] k (t :: q) j out = .bad 13 := by
 rw [rowL, if_neg (fun e => by cases e.2), if_neg (by rw [run_nil]; decide)]
 simp only [h3, if_false]
theorem Cur.of2 (h : Cur (s :: r) k) (h2 : ¬ s.1 = 1) : nextC (s :: r) k = (r, 0) ∧ one1 s = s := ⟨by rw [nextC_c, if_neg (fun e => h2 e.1)], if_neg h2⟩
end
def rowEE (L : List Stp) : E := .mk 3 Val.v0 Val.v0 [] false ByteArray.empty ByteArray.empty L []
def rowEnd : List Stp → E
 | [] => e0
 | [s] => if s.1 = 1 then e0 else rowEE [s]
 | s :: t :: r => rowEE (s :: t :: r)
def rowA : Res (List Stp) → Res E
 | .bad b => .bad b
 | .ok out => .ok (rowEnd ((Val.tidyW out).1 ++ (Val.tidyW out).2))
theorem Val.addKeepW_sz (out : List Val.St) (c : Int) : eszS (Val.addKeepW out c) ≤ eszS out + 1 ∧ (esmS out → esmS (Val.addKeepW out c)) := by
 have hz : eszS [((1 : Int), c, Val.v0, e0)] = 1 := by rw [eszS_one]; show 1 + vmx Val.v0 + esz e0 = 1; rw [Val.vmx_v0, Val.esz_e0']
 have hm : esmS [((1 : Int), c, Val.v0, e0)] := esmS_one Val.esm_e0
 unfold Val.addKeepW
 split
 ·exact ⟨by omega, id⟩
 ·cases h : out.getLast? with
  | none =>
   have : out = [] := by simpa using h
   subst this
   exact ⟨by rw [show eszS ([] : List Val.St) = 0 from by rw [eszS]]; exact Nat.le_of_eq hz, fun _ => hm⟩
  | some s =>
   simp only
   split
   ·have e0 := Val.last_split h
    have e1 : eszS [((1 : Int), IntKind.i64.wrap (s.2.1 + c), s.2.2.1, s.2.2.2)] = eszS [s] := by rw [eszS_one, eszS_one]
    refine ⟨?_, fun hx => ?_⟩
    ·conv => rhs; rw [e0]
     rw [Val.eszS_append, Val.eszS_append, e1]; omega
    ·rw [e0, Val.esmS_append] at hx
     rw [Val.esmS_append]
     refine ⟨hx.1, esmS_one ?_⟩
     have h2 := hx.2
     obtain ⟨a, b, v, x⟩ := s
     rw [esmS] at h2; exact h2.1
   ·rw [Val.eszS_append, Val.esmS_append]
    exact ⟨by show _ + eszS [((1 : Int), c, Val.v0, e0)] ≤ _; omega, fun hx => ⟨hx, hm⟩⟩
theorem Val.tstepW_sz (st : List Val.St × List Val.St) (s : Val.St) : eszS (Val.tstepW st s).1 + eszS (Val.tstepW st s).2 ≤ eszS st.1 + eszS st.2 + eszS [s] ∧ (esmS st.1 → esmS st.2 → esmS [s] → esmS (Val.tstepW st s).1 ∧ esmS (Val.tstepW st s).2) := by
 obtain ⟨out, puts⟩ := st
 have h1 := fun c => Val.addKeepW_sz (out ++ puts) c
 simp only [Val.eszS_append, Val.esmS_append] at h1
 have h0 : eszS ([] : List Val.St) = 0 := by rw [eszS]
 have hm : esmS ([] : List Val.St) := by rw [esmS]; trivial
 have hs : 1 ≤ eszS [s] := by rw [eszS_one]; omega
 unfold Val.tstepW
 simp only
 split
 ·exact ⟨by have := (h1 s.2.1).1; simp only [h0]; omega, fun a b c => ⟨(h1 s.2.1).2 ⟨a, b⟩, hm⟩⟩
 ·split
  ·exact ⟨by have := (h1 1).1; simp only [h0]; omega, fun a b c => ⟨(h1 1).2 ⟨a, b⟩, hm⟩⟩
  ·split
   ·exact ⟨by simp only [Val.eszS_append, h0]; omega, fun a b c => ⟨(Val.esmS_append _ _).2 ⟨(Val.esmS_append _ _).2 ⟨a, b⟩, c⟩, hm⟩⟩
   ·split
    ·exact ⟨by simp only [Val.eszS_append]; omega, fun a b c => ⟨(Val.esmS_append _ _).2 ⟨a, c⟩, b⟩⟩
    ·split
     ·exact ⟨by simp only [Val.eszS_append]; omega, fun a b c => ⟨a, (Val.esmS_append _ _).2 ⟨b, c⟩⟩⟩
     ·exact ⟨by simp only; omega, fun a b c => ⟨a, b⟩⟩
theorem Val.tidyW_sz : ∀ (l : List Val.St) (st : List Val.St × List Val.St), eszS (l.foldl Val.tstepW st).1 + eszS (l.foldl Val.tstepW st).2 ≤ eszS st.1 + eszS st.2 + eszS l ∧ (esmS st.1 → esmS st.2 → esmS l → esmS (l.foldl Val.tstepW st).1 ∧ esmS (l.foldl Val.tstepW st).2)
 | [], st => ⟨by simp [eszS], fun a b _ => ⟨a, b⟩⟩
 | s :: r, st => by
  have h1 := Val.tstepW_sz st s
  have h2 := Val.tidyW_sz r (Val.tstepW st s)
  rw [List.foldl_cons]
  have hs : eszS (s :: r) = eszS [s] + eszS r := by rw [eszS_cons, eszS_one]
  refine ⟨by omega, fun a b c => ?_⟩
  have c' : esmS [s] ∧ esmS r := (Val.esmS_append [s] r).1 c
  obtain ⟨p, q⟩ := h1.2 a b c'.1
  exact h2.2 p q c'.2
theorem rowEnd_pair {d e : E} {L : List Stp} (hm : esmS L) (hs : eszS L ≤ 3 * (esz d + esz e)) : PairP d e (.ok (rowEnd L)) := by
 have h0 : PairP d e (.ok e0) := ⟨fun b hb => (by cases hb), fun x hx => (by cases hx; exact ⟨Val.esm_e0, by rw [Val.esz_e0']; omega⟩)⟩
 have h1 : PairP d e (.ok (rowEE L)) := ⟨fun b hb => (by cases hb), fun x hx => by
  cases hx
  unfold rowEE
  refine ⟨by rw [esm]; exact ⟨⟨by decide, by decide⟩, by rw [esmF]; trivial, hm, by rw [esmK]; trivial⟩, ?_⟩
  rw [esz]; simp only [Val.vmx_v0, eszF, eszK]; omega⟩
 match L, h1 with
 | [], _ => exact h0
 | [s], h1 => show PairP d e (.ok (if s.1 = 1 then e0 else rowEE [s])); split <;> assumption
 | s :: t :: r, h1 => exact h1
theorem CRow.fin {er : Errs} {d e : E} {l m out : List Stp} {k j : Int} (h : CRow er d e l k m j out) : PairP d e (rowA (.ok out)) := by
 have hs : eszS out ≤ 3 * (esz d + esz e) := by
  have h1 := h.sz
  have h3 := (Val.esz_parts d).2.2.2.1; have h4 := (Val.esz_parts e).2.2.2.1
  omega
 have hz := Val.tidyW_sz out ([], [])
 have h0 : eszS ([] : List Val.St) = 0 := by rw [eszS]
 have hm0 : esmS ([] : List Val.St) := by rw [esmS]; trivial
 have e1 : Val.tidyW out = out.foldl Val.tstepW ([], []) := rfl
 refine rowEnd_pair ?_ ?_
 ·rw [e1]; exact (Val.esmS_append _ _).2 (hz.2 hm0 hm0 h.mo)
 ·rw [e1, Val.eszS_append]; have := hz.1; simp only [h0] at this; omega
theorem rowL_pair {er : Errs} {d e : E} (hs : eszS d.steps + eszS e.steps ≤ 30000) : ∀ (n : Nat) (l : List Stp) (k : Int) (m : List Stp) (j : Int) (out : List Stp), CRow er d e l k m j out → PairP d e (rowA (rowL (prC er 17) n l k m j out))
 | 0, l, k, m, j, out, h => by rw [rowL]; exact h.fin
 | n + 1, l, k, m, j, out, h => by
  have bad : ∀ b, b = 12 ∨ b = 13 → PairP d e (rowA (.bad b)) := fun b hb => ⟨fun b' hb' => (by cases hb'; exact hb), fun x hx => (by cases hx)⟩
  by_cases hp : 0 < runC l k m j
  ·rw [rowL_run hp]; exact rowL_pair hs n _ _ _ _ _ (h.run hp).1
  cases l with
  | nil =>
   cases m with
   | nil => rw [rowL_nn]; exact h.fin
   | cons t q =>
    by_cases h3 : t.1 = 3
    ·rw [rowL_put0 h3]; exact rowL_pair hs n _ _ _ _ _ h.put
    ·rw [rowL_end0 h3]; exact bad _ (.inr rfl)
  | cons s r =>
   by_cases h2 : s.1 = 2
   ·rw [rowL_drop hp h2]; exact rowL_pair hs n _ _ _ _ _ h.drop
   cases m with
   | nil => rw [rowL_end hp h2]; exact bad _ (.inr rfl)
   | cons t q =>
    by_cases h3 : t.1 = 3
    ·rw [rowL_put hp h2 h3]; exact rowL_pair hs n _ _ _ _ _ h.put
    ·rw [rowL_after hp h2 h3]
     have ha := h.after hs hp h2 h3
     split
     ·rename_i b hb; exact bad _ (ha.1 b hb)
     ·rename_i o ho; exact rowL_pair hs n _ _ _ _ _ (ha.2 o ho).2
end Go.Proofs.YtlmbcoecipbblaaGreatDoor
namespace Go.Proofs.YtlmbcoecipbblaaGreatDoor
open Go.RowKit
open Val (V E right cmp eright ado Res avalue esm esmF esmS esmK vmx esz eszF eszS eszK e0 swapE swapF PairP inv)
theorem Val.eszK_append : ∀ (a b : List (V × E)), eszK (a ++ b) = eszK a + eszK b
 | [], b => by simp [eszK]
 | (n, e) :: r, b => by rw [List.cons_append, eszK, eszK, Val.eszK_append r b]; omega
theorem Val.esmK_append : ∀ (a b : List (V × E)), esmK (a ++ b) ↔ esmK a ∧ esmK b
 | [], b => by simp [esmK]
 | (n, e) :: r, b => by rw [List.cons_append, esmK, esmK, Val.esmK_append r b, and_assoc]
theorem Val.esmK_mem : ∀ {f : List (V × E)}, esmK f → ∀ x ∈ f, esm x.2
 | (n, e) :: r, h, x, hx => by
  rw [esmK] at h
  rcases List.mem_cons.1 hx with rfl | hx
  ·exact h.1
  ·exact Val.esmK_mem h.2 x hx
def Val.putK (out : List (V × E)) (f : V × E) : List (V × E) := if f.2.kind = 0 then out else out ++ [f]
theorem Val.putK_sz (out : List (V × E)) (f : V × E) : eszK (Val.putK out f) ≤ eszK out + (1 + vmx f.1 + esz f.2) := by
 unfold Val.putK
 split
 ·omega
 ·obtain ⟨n, e⟩ := f; rw [Val.eszK_append, eszK, eszK]; simp only; omega
theorem Val.putK_m {out : List (V × E)} {f : V × E} (h : esmK out) (hf : esm f.2) : esmK (Val.putK out f) := by
 unfold Val.putK
 split
 ·exact h
 ·rw [Val.esmK_append]; obtain ⟨n, e⟩ := f; rw [esmK, esmK]; exact ⟨h, hf, trivial⟩
def bookL (pr : E → E → Res E) : List (V × E) → List (V × E) → List (V × E) → Res (List (V × E))
 | [], [], out => .ok out
 | f :: fs, [], out => bookL pr fs [] (Val.putK out f)
 | [], g :: gs, out => bookL pr [] gs (Val.putK out g)
 | f :: fs, g :: gs, out => if cmp f.1 g.1 < 0 then bookL pr fs (g :: gs) (Val.putK out f) else if cmp g.1 f.1 < 0 then bookL pr (f :: fs) gs (Val.putK out g) else match pr f.2 g.2 with
  | .bad b => .bad b
  | .ok x => bookL pr fs gs (Val.putK out (f.1, x))
termination_by fs gs => fs.length + gs.length
structure CBook (er : Errs) (d e : E) (fs gs out : List (V × E)) : Prop where
 fn : ∀ f ∈ fs, ∀ g ∈ gs, CoE er 17 f.2 g.2
 mf : ∀ f ∈ fs, esm f.2
 mg : ∀ g ∈ gs, esm g.2
 mo : esmK out
 sz : eszK out + 3 * (eszK fs + eszK gs) ≤ 3 * (eszK d.keys + eszK e.keys)
section
variable {er : Errs} {d e : E} {fs gs out : List (V × E)} {f g : V × E}
theorem CBook.start (hm : esm d) (hn : esm e) (hf : ∀ f ∈ d.keys, ∀ g ∈ e.keys, CoE er 17 f.2 g.2) : CBook er d e d.keys e.keys [] := by
 refine ⟨hf, ?_, ?_, by rw [esmK]; trivial, by rw [eszK]; omega⟩
 ·obtain ⟨k, o, n, f, r, ro, rn, s, ks⟩ := d; rw [esm] at hm; exact Val.esmK_mem hm.2.2.2
 ·obtain ⟨k, o, n, f, r, ro, rn, s, ks⟩ := e; rw [esm] at hn; exact Val.esmK_mem hn.2.2.2
theorem CBook.left (h : CBook er d e (f :: fs) gs out) : CBook er d e fs gs (Val.putK out f) :=
 ⟨fun x hx => h.fn x (List.mem_cons_of_mem _ hx), fun x hx => h.mf x (List.mem_cons_of_mem _ hx), h.mg, Val.putK_m h.mo (h.mf f (List.mem_cons_self ..)), by
  have h1 := h.sz; have h2 := Val.putK_sz out f
  obtain ⟨n, x⟩ := f; rw [eszK] at h1; simp only at h2; omega⟩
theorem CBook.right (h : CBook er d e fs (g :: gs) out) : CBook er d e fs gs (Val.putK out g) :=
 ⟨fun x hx y hy => h.fn x hx y (List.mem_cons_of_mem _ hy), h.mf, fun x hx => h.mg x (List.mem_cons_of_mem _ hx), Val.putK_m h.mo (h.mg g (List.mem_cons_self ..)), by
  have h1 := h.sz; have h2 := Val.putK_sz out g
  obtain ⟨n, x⟩ := g; rw [show eszK ((n, x) :: gs) = 1 + vmx n + esz x + eszK gs from by rw [eszK]] at h1; simp only at h2; omega⟩
theorem CBook.both (h : CBook er d e (f :: fs) (g :: gs) out) {x : E} (hx : PairP f.2 g.2 (.ok x)) {n : V} (hn : n = f.1) : CBook er d e fs gs (Val.putK out (n, x)) :=
 ⟨fun x hx y hy => h.fn x (List.mem_cons_of_mem _ hx) y (List.mem_cons_of_mem _ hy), fun x hx => h.mf x (List.mem_cons_of_mem _ hx), fun x hx => h.mg x (List.mem_cons_of_mem _ hx), Val.putK_m h.mo (hx.2 x rfl).1, by
  have h1 := h.sz; have h2 := Val.putK_sz out (n, x); have h3 := (hx.2 x rfl).2
  obtain ⟨a, y⟩ := f; obtain ⟨b, z⟩ := g; rw [eszK, eszK] at h1; simp only at h2 h3 hn; rw [← hn] at h1; omega⟩
end
def Val.bookE (out : List (V × E)) : E := .mk 4 Val.v0 Val.v0 [] false ByteArray.empty ByteArray.empty [] out
def Val.bookA : Res (List (V × E)) → Res E
 | .bad b => .bad b
 | .ok out => if out = [] then .ok e0 else .ok (Val.bookE out)
theorem CBook.fin {er : Errs} {d e : E} {out : List (V × E)} (h : CBook er d e [] [] out) : PairP d e (Val.bookA (.ok out)) := by
 have hs : eszK out ≤ 3 * (esz d + esz e) := by
  have h1 := h.sz
  have h3 := (Val.esz_parts d).2.2.2.2; have h4 := (Val.esz_parts e).2.2.2.2
  rw [eszK] at h1; omega
 by_cases h0 : out = []
 ·rw [Val.bookA, if_pos h0]; exact ⟨fun b hb => (by cases hb), fun x hx => (by cases hx; exact ⟨Val.esm_e0, by rw [Val.esz_e0']; omega⟩)⟩
 ·rw [Val.bookA, if_neg h0]
  refine ⟨fun b hb => (by cases hb), fun x hx => ?_⟩
  cases hx
  unfold Val.bookE
  refine ⟨by rw [esm]; exact ⟨⟨by decide, by decide⟩, by rw [esmF]; trivial, by rw [esmS]; trivial, h.mo⟩, ?_⟩
  rw [esz]; simp only [Val.vmx_v0, eszF, eszS]; omega
theorem bookL_pair {er : Errs} {d e : E} : ∀ (fs gs out : List (V × E)), CBook er d e fs gs out → PairP d e (Val.bookA (bookL (prC er 17) fs gs out)) := by
 intro fs gs
 induction hn : fs.length + gs.length using Nat.strongRecOn generalizing fs gs with
 | ind n ih =>
  intro out h
  cases fs with
  | nil =>
   cases gs with
   | nil => rw [bookL]; exact h.fin
   | cons g gs => rw [bookL]; exact ih (([] : List (V × E)).length + gs.length) (by simp only [List.length_cons, List.length_nil] at hn ⊢; omega) [] gs rfl _ h.right
  | cons f fs =>
   cases gs with
   | nil => rw [bookL]; exact ih (fs.length + ([] : List (V × E)).length) (by simp only [List.length_cons, List.length_nil] at hn ⊢; omega) fs [] rfl _ h.left
   | cons g gs =>
    rw [bookL]
    split
    ·exact ih (fs.length + (g :: gs).length) (by simp only [List.length_cons] at hn ⊢; omega) fs (g :: gs) rfl _ h.left
    ·split
     ·exact ih ((f :: fs).length + gs.length) (by simp only [List.length_cons] at hn ⊢; omega) (f :: fs) gs rfl _ h.right
     ·have hp := (prC_ok (h.fn f (List.mem_cons_self ..) g (List.mem_cons_self ..))).1
      split
      ·rename_i b hb
       rw [hb] at hp
       exact ⟨fun b' hb' => (by cases hb'; exact hp.1 b rfl), fun x hx => (by cases hx)⟩
      ·rename_i x hx
       rw [hx] at hp
       exact ih (fs.length + gs.length) (by simp only [List.length_cons] at hn ⊢; omega) fs gs rfl _ (h.both hp rfl)
end Go.Proofs.YtlmbcoecipbblaaGreatDoor
